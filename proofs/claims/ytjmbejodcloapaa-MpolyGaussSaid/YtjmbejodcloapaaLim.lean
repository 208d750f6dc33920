/- Limbs of 64 bits, what they tell, in memory; naturals and integers made plain: the program's. -/
import Derived.Test.YtjmbejodcloapaaRows
import Derived.Test.YtjmbejodcloapaaBase
import Derived.WalkKit
import Derived.WalkSpells
import Derived.WalkLawsBesides
import Derived.Lib.Hide
import Derived.Lib.BitFns
import Derived.Deep.LoopGhost
import Derived.Deep.Slices
import Derived.BigRegion
import Derived.BigQuiet
import Derived.Deep.RegionHeld3
import Derived.Deep.DrawnRows
import Derived.Laws.CopyOwn
import Derived.OwnWalk
import Derived.Lib.SliceRun
import Derived.Laws.Bits64b
namespace Cl
/-- The number of f's values up to n that are left without noughts at the end. -/
def plen (f : Nat → Int) : Nat → Nat
  | 0 => 0
  | n + 1 => if f n = 0 then plen f n else n + 1
theorem plen_le (f : Nat → Int) (n : Nat) : plen f n ≤ n := by
  induction n with
  | zero => exact Nat.le_refl _
  | succ n ih => unfold plen; split <;> omega
theorem plen_zero {f : Nat → Int} {n i : Nat} (h1 : plen f n ≤ i) (h2 : i < n) : f i = 0 := by
  induction n with
  | zero => omega
  | succ n ih =>
    unfold plen at h1
    split at h1
    · next h0 =>
      by_cases e : i = n
      · rw [e, h0]
      · exact ih h1 (by omega)
    · omega
theorem plen_top {f : Nat → Int} {n : Nat} (h : 0 < plen f n) : f (plen f n - 1) ≠ 0 := by
  induction n with
  | zero => unfold plen at h; omega
  | succ n ih =>
    unfold plen at h ⊢
    split at h
    · next h0 => rw [if_pos h0]; exact ih h
    · next h0 => rw [if_neg h0]; exact h0
theorem plen_drop {f : Nat → Int} {n : Nat} (h : f n = 0) : plen f (n + 1) = plen f n := by
  conv => lhs; unfold plen
  rw [if_pos h]
theorem plen_stop {f : Nat → Int} {n : Nat} (h : f n ≠ 0) : plen f (n + 1) = n + 1 := by
  conv => lhs; unfold plen
  rw [if_neg h]
theorem plen_congr {f g : Nat → Int} {n : Nat} (h : ∀ i, i < n → f i = g i) : plen f n = plen g n := by
  induction n with
  | zero => rfl
  | succ n ih => unfold plen; rw [h n (by omega), ih (fun i hi => h i (by omega))]
/-- The number that limbs of 64 bits tell. -/
def limbs : List Int → Nat
  | [] => 0
  | x :: xs => x.toNat + 2 ^ 64 * limbs xs
/-- Are they limbs? -/
def IsLimbs (l : List Int) : Prop := ∀ i, 0 ≤ nth l i ∧ nth l i < 18446744073709551616
theorem nth_cons_zero (x : Int) (l : List Int) : nth (x :: l) 0 = x := rfl
theorem nth_cons_succ (x : Int) (l : List Int) (i : Nat) : nth (x :: l) (i + 1) = nth l i := rfl
theorem IsLimbs.tail {x : Int} {l : List Int} (h : IsLimbs (x :: l)) : IsLimbs l := fun i => h (i + 1)
/-- The k-th bit stands in limb k / 64. -/
theorem limbs_bit {l : List Int} (h : IsLimbs l) (k : Nat) : limbs l / 2 ^ k % 2 = (nth l (k / 64)).toNat / 2 ^ (k % 64) % 2 := by
  induction l generalizing k with
  | nil => show 0 / 2 ^ k % 2 = (0 : Int).toNat / 2 ^ (k % 64) % 2; simp
  | cons x l ih =>
    have hx := h 0
    rw [nth_cons_zero] at hx
    show (x.toNat + 2 ^ 64 * limbs l) / 2 ^ k % 2 = _
    by_cases hk : k < 64
    · rw [Nat.div_eq_of_lt hk, Nat.mod_eq_of_lt hk, nth_cons_zero]
      obtain ⟨d, hd⟩ : ∃ d, 64 = k + (d + 1) := ⟨63 - k, by omega⟩
      have e : 2 ^ 64 * limbs l = 2 ^ k * (2 * (2 ^ d * limbs l)) := by
        conv => lhs; rw [hd, Nat.pow_add, Nat.pow_succ]
        ac_rfl
      rw [e, Nat.add_mul_div_left _ _ (Nat.two_pow_pos k), Nat.add_mul_mod_self_left]
    · obtain ⟨j, rfl⟩ : ∃ j, k = j + 64 := ⟨k - 64, by omega⟩
      have e1 : (x.toNat + 2 ^ 64 * limbs l) / 2 ^ (j + 64) = limbs l / 2 ^ j := by
        rw [Nat.add_comm j 64, Nat.pow_add, ← Nat.div_div_eq_div_mul, Nat.add_mul_div_left _ _ (by decide), Nat.div_eq_of_lt (a := x.toNat) (by omega), Nat.zero_add]
      rw [e1, ih h.tail, show (j + 64) / 64 = j / 64 + 1 by omega, nth_cons_succ, show (j + 64) % 64 = j % 64 by omega]
theorem limbs_lt {l : List Int} (h : IsLimbs l) : limbs l < 2 ^ (64 * l.length) := by
  induction l with
  | nil => decide
  | cons x l ih =>
    have hx := h 0
    rw [nth_cons_zero] at hx
    have := ih h.tail
    show x.toNat + 2 ^ 64 * limbs l < 2 ^ (64 * (l.length + 1))
    rw [Nat.mul_succ, Nat.add_comm (64 * l.length), Nat.pow_add]
    have h1 : 2 ^ 64 * (limbs l + 1) ≤ 2 ^ 64 * 2 ^ (64 * l.length) := Nat.mul_le_mul_left _ this
    have h2 : x.toNat < 2 ^ 64 := by omega
    omega
end Cl
namespace Cl
open Go Go.RowKit

def lmbs (xs : List Int) : List Value := xs.map (Value.int .u64)
theorem lmbs_length (xs : List Int) : (lmbs xs).length = xs.length := by simp [lmbs]
theorem lmbs_get {xs : List Int} {i : Nat} (h : i < xs.length) : (lmbs xs)[i]? = some (.int .u64 (nth xs i)) := by
  simp [lmbs, nth_lt h, h]
theorem lmbs_oneCell (xs : List Int) : ∀ u ∈ lmbs xs, u.oneCell' = true := by
  intro u hu
  simp only [lmbs, List.mem_map] at hu
  obtain ⟨x, _, rfl⟩ := hu
  rfl
/-- The slice at A, of n elements, reads as the limbs xs. -/
structure Limbs (w : World) (A : Option Addr) (n : Nat) (xs : List Int) : Prop where
  len : xs.length = n
  at_ : 0 < n → ∃ b o, A = some ⟨b, o, none⟩ ∧ b < w.heap.size ∧ ∀ i, i < n → w.cell? ⟨b, o + i, none⟩ = some (.int .u64 (nth xs i))
  ok : IsLimbs xs
section
variable {w w' : World} {A : Option Addr} {n : Nat} {xs : List Int}
theorem Limbs.keep (h : Limbs w A n xs) (hs : w.heap.size ≤ w'.heap.size) (hk : ∀ p : Addr, p.block < w.heap.size → w'.cell? p = w.cell? p) : Limbs w' A n xs :=
  ⟨h.len, fun hn => by
    obtain ⟨b, o, e, hb, hc⟩ := h.at_ hn
    exact ⟨b, o, e, by omega, fun i hi => (hk ⟨b, o + i, none⟩ hb).trans (hc i hi)⟩, h.ok⟩
theorem Limbs.below (h : Limbs w A n xs) {B : Nat} (hb : Below B w w') (hB : w.heap.size ≤ B) : Limbs w' A n xs := h.keep hb.size fun _ hp => hb.cell (by omega)
theorem Limbs.bel (h : Limbs w A n xs) (hb : Below w.heap.size w w') : Limbs w' A n xs := h.below hb (Nat.le_refl _)
theorem Limbs.drew (h : Limbs w A n xs) : Limbs w.drew A n xs := ⟨h.len, h.at_, h.ok⟩
theorem Limbs.alloc (h : Limbs w A n xs) (o : Obj) : Limbs (w.alloc o) A n xs := h.keep (by simp) fun p hp => World.cell?_alloc_lt w o p hp
theorem IsLimbs.take {xs : List Int} (h : IsLimbs xs) (k : Nat) : IsLimbs (xs.take k) := fun i => by
  by_cases hi : i < k
  · have : nth (xs.take k) i = nth xs i := by unfold nth; simp [List.getD, hi]
    rw [this]; exact h i
  · rw [nth_ge (by simp; omega)]; omega
theorem nth_take {xs : List Int} {k i : Nat} (hi : i < k) : nth (xs.take k) i = nth xs i := by unfold nth; simp [List.getD, hi]
theorem Limbs.take (h : Limbs w A n xs) {k : Nat} (hk : k ≤ n) : Limbs w A k (xs.take k) :=
  ⟨by rw [List.length_take, h.len]; omega, fun h0 => by
    obtain ⟨b, o, e, hb, hc⟩ := h.at_ (by omega)
    exact ⟨b, o, e, hb, fun i hi => by rw [nth_take hi]; exact hc i (by omega)⟩, h.ok.take k⟩
theorem Limbs.nil (w : World) (A : Option Addr) : Limbs w A 0 [] := ⟨rfl, fun h => absurd h (by omega), fun i => by rw [nth_ge (by simp)]; omega⟩
theorem Limbs.reads (h : Limbs w A n xs) : Reads w w.heap.size 1 A n (lmbs xs) :=
  ⟨by rw [lmbs_length, h.len, Nat.mul_one], fun h0 => by
    obtain ⟨b, o, e, hb, hc⟩ := h.at_ h0
    refine ⟨_, e, hb, fun j u hu => ?_⟩
    have hj : j < n := by
      have := (List.getElem?_eq_some_iff.1 hu).1
      rw [lmbs_length, h.len] at this; exact this
    rw [lmbs_get (by rw [h.len]; exact hj)] at hu
    injection hu with hu
    rw [← hu]
    have : (⟨b, o, none⟩ : Addr).add j = ⟨b, o + j, none⟩ := by
      unfold Addr.add; split
      · rename_i e; subst e; rfl
      · rfl
    rw [this]; exact hc j hj⟩
theorem Limbs.of_own {base : Nat} {e : TypeId} {c : Nat} (h : w.ownsRow base e 1 (.slice A n c) n (lmbs xs)) (hok : IsLimbs xs) : Limbs w A n xs := by
  have hl := h.1
  rw [lmbs_length, Nat.mul_one] at hl
  refine ⟨hl, fun hn => ?_, hok⟩
  rcases h.2 with ⟨h', h0⟩ | ⟨g, cap, cur, hv, _, hg, hnc, hcm, hcs, htake⟩
  · omega
  · simp only [Value.slice.injEq] at hv
    obtain ⟨rfl, _, rfl⟩ := hv
    refine ⟨g, 0, rfl, (Array.getElem?_eq_some_iff.1 hg).1, fun i hi => ?_⟩
    rw [Nat.zero_add, cell_of_row w g i cur e (0, 0) hg]
    have := lmbs_get (xs := xs) (i := i) (by omega)
    rw [← htake, List.getElem?_take, if_pos (by omega)] at this
    simpa using this
/-- One limb in new memory. -/
theorem Limbs.one (w : World) (t : TypeId) {x : Int} (h0 : 0 ≤ x) (h1 : x < 18446744073709551616) : Limbs (w.alloc (.cells #[.int .u64 x] t)) (some ⟨w.heap.size, 0, none⟩) 1 [x] :=
  ⟨rfl, fun _ => ⟨_, 0, rfl, by simp, fun i hi => by
    obtain rfl : i = 0 := by omega
    exact cell_new0 w _ t⟩, fun i => by
    match i with
    | 0 => exact ⟨h0, h1⟩
    | i + 1 => rw [nth_ge (by simp)]; omega⟩
end
/-- How many limbs are left without noughts at the end. -/
def lmN (xs : List Int) (n : Nat) : Nat := plen (nth xs) n
theorem lmN_le (xs : List Int) (n : Nat) : lmN xs n ≤ n := plen_le _ _
theorem limbs_append (xs ys : List Int) : limbs (xs ++ ys) = limbs xs + 2 ^ (64 * xs.length) * limbs ys := by
  induction xs with
  | nil => simp [limbs]
  | cons x xs ih =>
    show x.toNat + 2 ^ 64 * limbs (xs ++ ys) = x.toNat + 2 ^ 64 * limbs xs + 2 ^ (64 * (xs.length + 1)) * limbs ys
    rw [ih, Nat.mul_succ, Nat.add_comm (64 * xs.length), Nat.pow_add, Nat.mul_add, Nat.mul_assoc]; omega
theorem limbs_take_succ {xs : List Int} {k : Nat} (h : k < xs.length) : limbs (xs.take (k + 1)) = limbs (xs.take k) + 2 ^ (64 * k) * (nth xs k).toNat := by
  have e : xs.take (k + 1) = xs.take k ++ [nth xs k] := by rw [nth_lt h]; exact List.take_succ_eq_append_getElem h
  rw [e, limbs_append, List.length_take, Nat.min_eq_left (by omega)]
  show _ + _ * ((nth xs k).toNat + 2 ^ 64 * 0) = _
  rw [Nat.mul_zero, Nat.add_zero]
theorem limbs_lmN {xs : List Int} {n : Nat} (hn : n ≤ xs.length) : limbs (xs.take (lmN xs n)) = limbs (xs.take n) := by
  induction n with
  | zero => rfl
  | succ n ih =>
    unfold lmN
    by_cases h : nth xs n = 0
    · rw [plen_drop h, limbs_take_succ (by omega), h]
      show _ = _ + _ * 0
      rw [Nat.mul_zero, Nat.add_zero]; exact ih (by omega)
    · rw [plen_stop h]
theorem lmN_zero {xs : List Int} {n : Nat} (hn : xs.length = n) (h : lmN xs n = 0) : limbs xs = 0 := by
  have := limbs_lmN (xs := xs) (n := n) (by omega)
  rw [h, List.take_of_length_le (i := n) (by omega)] at this
  rw [← this]; rfl
theorem lt_bitLen {x : Nat} (h : x < 2 ^ 64) : x < 2 ^ Lib.bitLen x := by
  unfold Lib.bitLen
  revert h
  generalize 64 = f
  induction f generalizing x with
  | zero => intro h; simpa [Lib.bitLenAux] using h
  | succ f ih =>
    intro h
    unfold Lib.bitLenAux
    split
    · rename_i e; subst e; decide
    · rw [Nat.pow_succ] at h
      have := ih (x := x / 2) (by omega)
      rw [Nat.pow_add]; omega
/-- How many bits the program tells. -/
def bitsN (xs : List Int) (n : Nat) : Nat := if lmN xs n = 0 then 0 else 64 * (lmN xs n - 1) + Lib.bitLen (nth xs (lmN xs n - 1)).toNat
theorem bitsN_le {xs : List Int} (h : IsLimbs xs) (n : Nat) : bitsN xs n ≤ 64 * n := by
  unfold bitsN
  split
  · omega
  · have h1 := lmN_le xs n
    have h2 := h (lmN xs n - 1)
    have := Lib.bitLen_le (nth xs (lmN xs n - 1)).toNat 64 (by omega) (by omega)
    omega
theorem limbs_lt_bitsN {xs : List Int} (h : IsLimbs xs) {n : Nat} (hn : xs.length = n) : limbs xs < 2 ^ bitsN xs n := by
  have e := limbs_lmN (xs := xs) (n := n) (by omega)
  rw [List.take_of_length_le (i := n) (by omega)] at e
  unfold bitsN
  by_cases h0 : lmN xs n = 0
  · rw [if_pos h0, ← e, h0]; show (0 : Nat) < 2 ^ 0; decide
  · rw [if_neg h0]
    have h1 := lmN_le xs n
    have h2 := h (lmN xs n - 1)
    obtain ⟨k, hk⟩ : ∃ k, lmN xs n = k + 1 := ⟨lmN xs n - 1, by omega⟩
    rw [hk] at e ⊢ h2
    rw [Nat.add_sub_cancel] at h2 ⊢
    rw [← e, limbs_take_succ (by omega)]
    have h3 := limbs_lt (h.take k)
    rw [List.length_take, Nat.min_eq_left (by omega)] at h3
    have h4 := lt_bitLen (x := (nth xs k).toNat) (by omega)
    rw [Nat.pow_add]
    have h5 : 2 ^ (64 * k) * ((nth xs k).toNat + 1) ≤ 2 ^ (64 * k) * 2 ^ Lib.bitLen (nth xs k).toNat := Nat.mul_le_mul_left _ h4
    rw [Nat.mul_add, Nat.mul_one] at h5
    omega
end Cl

namespace Go.Proofs.Ytjmbejodcloapaa
open Go.RowKit Cl
attribute [local go_sem ↓] Go.wp_at_zero Go.wp_at_succ

theorem uint_info : (Try.prog.info? 77).map (fun i => (i.zero, i.size, i.bytes)) = some (some (.int .u64 0), 1, 8) := by kernel_rfl
/-- A call that hands back limbs, and turns nothing that was there. -/
def GivesLimbs (w : World) (xs : List Int) (e : Ending) (w' : World) : Prop :=
  ∃ A c, e = .returned (.slice A xs.length c) ∧ xs.length ≤ c ∧ c ≤ 9223372036854775807 ∧ Limbs w' A xs.length xs ∧ Below w.heap.size w w'

set_option maxRecDepth 100000 in
theorem nplain_any (A : Option Addr) (n c : Nat) (xs : List Int) (w : World) (hx : Limbs w A n xs) (hn : n ≤ c) (hc : c ≤ 9223372036854775807) :
    Calls Try.prog 49 #[.slice A n c] w fun e w' => e = .returned (.slice A (lmN xs n) c) ∧ w' = w := by
  go_enter Try.func49, Try.ntmps49
  obtain ⟨wo, rfl⟩ : ∃ wo : World, wo = w := ⟨_, rfl⟩
  go_wp2
  go_loopg [0] (n + 1) (fun gk s wr => ∃ m : Nat, m ≤ n ∧ m < gk ∧ s = .slice A m c ∧ Hid (lmN xs n = lmN xs m) ∧ wr = wo)
  case atStart => exact ⟨n, by omega, by omega, rfl, rfl, rfl⟩
  case round =>
    obtain ⟨m, hm, hgk, rfl, hpl, rfl⟩ := hrel
    cases m with
    | zero =>
      have Hfin : Hid (lmN xs n = 0) := hpl.out
      go_wp2
      go_ret
      refine ⟨?_, rfl⟩
      rw [Hfin.out]; rfl
    | succ m =>
      obtain ⟨b, o, rfl, hb, hc'⟩ := hx.at_ (by omega)
      have hcy := hc' m (by omega)
      clear hc'
      have hmc : m ≤ c := by omega
      have hmc' : (m : Int) ≤ (c : Int) := by omega
      have hmp : (0 : Int) < (m : Int) + 1 := by omega
      by_cases hz : nth xs m = 0
      · rw [hz] at hcy
        have Hz := Lib.hid hz
        clear hz
        go_wp2
        go_roundg (gk - 1)
        case measure => omega
        case rel => exact ⟨m, by omega, by omega, rfl, by show _ = _; rw [hpl.out]; exact plen_drop Hz.out, rfl⟩
      · have hz' : (nth xs m == 0) = false := beq_eq_false_iff_ne.2 hz
        have Hfin : Hid (lmN xs n = m + 1) := hpl.out.trans (plen_stop hz)
        clear hz
        go_wp2
        go_ret
        refine ⟨?_, rfl⟩
        rw [Hfin.out]; rfl

theorem neq_nil (w : World) (a : Option Addr) (n c n' c' : Nat) : (binOp .eql 32 (.slice a n c) (.slice none n' c')).run Try.prog w = .ok (.bool a.isNone) w :=
  Lib.run_eql_slice_nil w _ _ a n c n' c' Try.underlying32

set_option maxRecDepth 100000 in
theorem nclone_any (A : Option Addr) (n c : Nat) (xs : List Int) (w : World) (hx : Limbs w A n xs) (hn : n * 8 ≤ 140737488355328) :
    Calls Try.prog 64 #[.slice A n c] w (GivesLimbs w xs) := by
  obtain rfl := hx.len
  have hr := Lib.hid hx.reads
  have hok := Lib.hid hx.ok
  have q22 := neq_nil
  obtain ⟨i0, hi, hz0, hz1, hz2⟩ := info_parts uint_info
  rcases A with _ | ad
  · have h0 : xs.length = 0 := by
      rcases Nat.eq_zero_or_pos xs.length with h | h
      · exact h
      · obtain ⟨b, o, e, _⟩ := hx.at_ h
        cases e
    have Hfin : Hid (GivesLimbs w xs (.returned (.slice none 0 0)) w) := by
      refine ⟨none, 0, by rw [h0], by omega, by omega, ?_, Below.refl _ _⟩
      rw [List.eq_nil_of_length_eq_zero h0]; exact Limbs.nil _ _
    clear h0 hx
    go_enter Try.func64, Try.ntmps64
    go_wp2
    go_ret
    exact Hfin.out
  · go_enter Try.func64, Try.ntmps64
    go_wp2_with (at_builtin; refine wpList_append_any (w := w.alloc (.cells #[] 77)) rfl _ _ 32 rfl w.heap.size 77 i0 (.int .u64 0) 1 8 Try.underlying32 hi hz0 hz1 hz2 rfl (by decide) _ 0 [] rfl (own_empty w 77 (Nat.le_refl _)) w.heap.size (some ad) xs.length c (lmbs xs) rfl (hr.out.alloc (Nat.le_refl _) _) (lmbs_oneCell xs) (by unfold maxLen; omega) (by omega) (by simp) ?_; intro v' w1 hown hgrow hat)
    have hown2 : w1.ownsRow w.heap.size 77 1 v' xs.length (lmbs xs) := by simpa using hown
    have hb : Below w.heap.size w w1 := ((Below.refl _ w).alloc (Nat.le_refl _) _).grown hgrow (by simp) (fun k hk => ((own_empty w 77 (Nat.le_refl _)).lt k hk).1)
    go_wp2
    go_ret
    obtain ⟨A', c', rfl⟩ := own_slice hown2
    have hcc : xs.length ≤ c' ∧ c' ≤ 9223372036854775807 := by
      rcases hown2.2 with ⟨hv, h0⟩ | ⟨g, cap, cur, hv, _, _, hnc, hcm, _⟩
      · injection hv; omega
      · injection hv with _ _ e
        unfold maxLen at hcm; omega
    exact ⟨A', c', rfl, hcc.1, hcc.2, Limbs.of_own hown2 hok.out, hb⟩

/-- nat.Norm. -/
theorem nnorm_any (A : Option Addr) (n c : Nat) (xs : List Int) (w : World) (hx : Limbs w A n xs) (hn : n ≤ c) (hc : c ≤ 9223372036854775807) (hn8 : n * 8 ≤ 140737488355328) :
    Calls Try.prog 48 #[.slice A n c] w (GivesLimbs w (xs.take (lmN xs n))) := by
  have hl := lmN_le xs n
  go_enter Try.func48, Try.ntmps48
  go_wp2_with fail
  refine (nplain_any A n c xs _ hx hn hc).mono ?_
  rintro e w' ⟨rfl, rfl⟩
  go_wp2_with fail
  refine (nclone_any A _ c _ _ (hx.take hl) (by omega)).mono ?_
  rintro e w1 ⟨A1, c1, rfl, h1, h2, h3, h4⟩
  go_wp2
  go_ret
  refine ⟨A1, c1, ?_, h1, h2, h3, h4⟩
  rw [List.length_take]; rfl
end Go.Proofs.Ytjmbejodcloapaa

namespace Go.Proofs.Ytjmbejodcloapaa
open Go.RowKit Cl
attribute [local go_sem ↓] Go.wp_at_zero Go.wp_at_succ

/-- A call that hands back an integer, and turns nothing that was there. -/
def GivesInt (w : World) (neg : Bool) (xs : List Int) (e : Ending) (w' : World) : Prop :=
  ∃ A c, e = .returned (.agg #[.bool neg, .slice A xs.length c]) ∧ xs.length ≤ c ∧ c ≤ 9223372036854775807 ∧ Limbs w' A xs.length xs ∧ Below w.heap.size w w'
theorem aint_size : (Try.prog.info? 34).map (·.size) = some 2 := by kernel_rfl

/-- Block g is just an integer: its sign, its limbs. -/
def Duo (w : World) (g : Nat) (u v : Value) : Prop := w.heap[g]? = some (.cells #[u, v] 34 (0, 0))
section
variable {w w' : World} {g : Nat} {u v : Value}
theorem Duo.lt (h : Duo w g u v) : g < w.heap.size := (Array.getElem?_eq_some_iff.1 h).1
theorem Duo.cell0 (h : Duo w g u v) : w.cell? ⟨g, 0, none⟩ = some u := by rw [cell_of_row w g 0 _ _ (0, 0) h]; rfl
theorem Duo.cell1 (h : Duo w g u v) : w.cell? ⟨g, 1, none⟩ = some v := by rw [cell_of_row w g 1 _ _ (0, 0) h]; rfl
theorem Duo.frozen (h : Duo w g u v) (i : Nat) : w.frozen? ⟨g, i, none⟩ = false := by unfold Duo at h; simp [World.frozen?, h]
theorem Duo.keep (h : Duo w g u v) (hk : w'.heap[g]? = w.heap[g]?) : Duo w' g u v := hk.trans h
theorem Duo.bel (h : Duo w g u v) (hb : Below w.heap.size w w') : Duo w' g u v := h.keep (hb.block g h.lt)
theorem Duo.set (h : Duo w g u v) (a b : Value) : Duo ((w.setCell ⟨g, 0, none⟩ a).setCell ⟨g, 1, none⟩ b) g a b := by
  unfold Duo at h ⊢
  simp [World.setCell, Array.getElem?_modify, h]
theorem Duo.new (w : World) (u v : Value) : Duo (w.alloc (.cells #[u, v] 34)) w.heap.size u v := heap_alloc_new w _
theorem Duo.limbs (h : Duo w g u v) (a b : Value) {A : Option Addr} {n c : Nat} {s : Bool} (hu : u = .bool s) (hv : v = .slice A n c) {B : Option Addr} {m : Nat} {ys : List Int} (hi : Limbs w B m ys) : Limbs ((w.setCell ⟨g, 0, none⟩ a).setCell ⟨g, 1, none⟩ b) B m ys := by
  refine ⟨hi.len, fun hm => ?_, hi.ok⟩
  obtain ⟨bb, o, e, hb, hc⟩ := hi.at_ hm
  refine ⟨bb, o, e, by simpa using hb, fun i hlt => ?_⟩
  have hne : bb ≠ g ∨ (o + i ≠ 0 ∧ o + i ≠ 1) := by
    by_cases e1 : bb = g
    · subst e1
      refine .inr ⟨fun e2 => ?_, fun e2 => ?_⟩
      · have := hc i hlt
        rw [e2, h.cell0, hu] at this; cases this
      · have := hc i hlt
        rw [e2, h.cell1, hv] at this; cases this
    · exact .inl e1
  rw [World.cell?_setCell_other _ _ _ _ (fun e => by injection e; omega), World.cell?_setCell_other _ _ _ _ (fun e => by injection e; omega)]
  exact hc i hlt
end

set_option maxRecDepth 100000 in
theorem zmade_any (neg : Bool) (A : Option Addr) (n c : Nat) (xs : List Int) (w : World) (hx : Limbs w A n xs) (hn : n ≤ c) (hc : c ≤ 9223372036854775807) (hn8 : n * 8 ≤ 140737488355328) :
    Calls Try.prog 32 #[.bool neg, .slice A n c] w (GivesInt w (neg && decide (0 < lmN xs n)) (xs.take (lmN xs n))) := by
  have hl := lmN_le xs n
  have hlen : (xs.take (lmN xs n)).length = lmN xs n := by rw [List.length_take, hx.len]; omega
  have Hlen := Lib.hid hlen
  have Cn := Lib.hid (fun W (h : Below w.heap.size w W) => nnorm_any A n c xs W (hx.bel h) hn hc hn8)
  have hd := Duo.new w (.bool false) (.slice none 0 0)
  clear hlen hx
  go_enter Try.func32, Try.ntmps32
  go_wp2_with fail
  refine (Cn.out _ (by exact (Below.refl _ _).alloc (Nat.le_refl _) _)).mono ?_
  rintro e w1 ⟨A1, c1, rfl, h1, h2, h3, h4⟩
  rw [Hlen.out] at h1 h3 ⊢
  have hd1 := hd.bel h4
  have c0 := hd1.cell0
  have c1' := hd1.cell1
  have f0 := hd1.frozen 0
  have f1 := hd1.frozen 1
  have hb : Below w.heap.size w w1 := ((Below.refl _ w).alloc (Nat.le_refl _) _).trans (h4.mono (by simp))
  have Hd := Lib.hid hd1
  clear hd hd1 h4
  have fin : ∀ b : Bool, GivesInt w b (xs.take (lmN xs n)) (.returned (.agg #[.bool b, .slice A1 (lmN xs n) c1])) ((w1.setCell ⟨w.heap.size, 0, none⟩ (.bool b)).setCell ⟨w.heap.size, 1, none⟩ (.slice A1 (lmN xs n) c1)) := fun b => by
    refine ⟨A1, c1, ?_, ?_, h2, ?_, (hb.setCell (p := ⟨w.heap.size, 0, none⟩) (Nat.le_refl _) _).setCell (p := ⟨w.heap.size, 1, none⟩) (Nat.le_refl _) _⟩
    · rw [Hlen.out]
    · rw [Hlen.out]; exact h1
    · rw [Hlen.out]; exact Hd.out.limbs _ _ rfl rfl h3
  have Fin := Lib.hid fin
  clear fin
  cases neg with
  | false =>
    go_wp2
    exact bodyPost_ret (v := .agg #[.bool false, .slice A1 (lmN xs n) c1]) (results_cell_row (fn := Try.f32) rfl _ _ _ _ _ _ _ rfl (Hd.out.set (.bool false) (.slice A1 (lmN xs n) c1)) Try.underlying34 rfl aint_size) rfl (Fin.out _)
  | true =>
    go_wp2
    exact bodyPost_ret (v := .agg #[.bool (decide (0 < lmN xs n)), .slice A1 (lmN xs n) c1]) (results_cell_row (fn := Try.f32) rfl _ _ _ _ _ _ _ rfl (Hd.out.set (.bool (decide (0 < lmN xs n))) (.slice A1 (lmN xs n) c1)) Try.underlying34 rfl aint_size) rfl (Fin.out _)

set_option maxRecDepth 100000 in
theorem znorm_any (neg : Bool) (A : Option Addr) (n c : Nat) (xs : List Int) (w : World) (hx : Limbs w A n xs) (hn : n ≤ c) (hc : c ≤ 9223372036854775807) (hn8 : n * 8 ≤ 140737488355328) :
    Calls Try.prog 59 #[.agg #[.bool neg, .slice A n c]] w (GivesInt w (neg && decide (0 < lmN xs n)) (xs.take (lmN xs n))) := by
  have Cn := Lib.hid (fun W (h : Below w.heap.size w W) => zmade_any neg A n c xs W (hx.bel h) hn hc hn8)
  have hd0 := (Duo.new w (.bool neg) (.slice A n c)).bel ((Below.refl _ _).alloc (Nat.le_refl _) (.cells #[.bool false, .slice none 0 0] 34))
  have hd := Duo.new (w.alloc (.cells #[.bool neg, .slice A n c] 34)) (.bool false) (.slice none 0 0)
  rw [World.size_alloc] at hd
  have c0 := hd0.cell0
  have c1 := hd0.cell1
  have Hd := Lib.hid hd
  clear hd hd0 hx
  go_enter Try.func59, Try.ntmps59
  go_wp2_with fail
  refine (Cn.out _ (by exact ((Below.refl _ _).alloc (Nat.le_refl _) _).alloc (by simp) _)).mono ?_
  rintro e w1 ⟨A1, c1', rfl, h1, h2, h3, h4⟩
  have hd1 := Hd.out.bel h4
  have k0 := hd1.cell0
  have k1 := hd1.cell1
  have f0 := hd1.frozen 0
  have f1 := hd1.frozen 1
  have hb : Below w.heap.size w w1 := (((Below.refl _ w).alloc (Nat.le_refl _) _).alloc (by simp) _).trans (h4.mono (by simp; omega))
  have Hd1 := Lib.hid hd1
  clear hd1 h4
  go_wp2
  exact bodyPost_ret (results_cell_row (fn := Try.f59) rfl _ _ _ _ _ _ _ rfl (Hd1.out.set _ _) Try.underlying34 rfl aint_size) rfl
    ⟨A1, c1', by rw [List.length_take], h1, h2, Hd1.out.limbs _ _ rfl rfl h3, (hb.setCell (p := ⟨w.heap.size + 1, 0, none⟩) (by simp) _).setCell (p := ⟨w.heap.size + 1, 1, none⟩) (by simp) _⟩

/-- An integer's sign: of how many limbs it is. -/
def signN (neg : Bool) : Nat → Int
  | 0 => 0
  | _ + 1 => if neg then -1 else 1
set_option maxRecDepth 100000 in
/-- zint.Sign, as far as it is asked for: whether it is less than nought. -/
theorem zsign_any (neg : Bool) (A : Option Addr) (n c : Nat) (xs : List Int) (w : World) (hx : Limbs w A n xs) (hn : n ≤ c) (hc : c ≤ 9223372036854775807) (hn8 : n * 8 ≤ 140737488355328) :
    Calls Try.prog 55 #[.agg #[.bool neg, .slice A n c]] w (fun e w' => e = .returned (.int .i64 (signN neg (lmN xs n))) ∧ Below w.heap.size w w') := by
  have hl := lmN_le xs n
  have hlen : (xs.take (lmN xs n)).length = lmN xs n := by rw [List.length_take, hx.len]; omega
  have Hlen := Lib.hid hlen
  have Cn := Lib.hid (fun W (h : Below w.heap.size w W) => znorm_any neg A n c xs W (hx.bel h) hn hc hn8)
  have hd := Duo.new w (.bool neg) (.slice A n c)
  have k0 := hd.cell0
  have k1 := hd.cell1
  have Hd := Lib.hid hd
  clear hd hlen hx
  go_enter Try.func55, Try.ntmps55
  go_wp2_with fail
  refine (Cn.out _ (by exact (Below.refl _ _).alloc (Nat.le_refl _) _)).mono ?_
  rintro e w1 ⟨A1, c1, rfl, h1, h2, h3, h4⟩
  rw [Hlen.out] at h1 h3 ⊢
  have hd1 := Hd.out.bel h4
  have c0 := hd1.cell0
  have c1' := hd1.cell1
  have f0 := hd1.frozen 0
  have f1 := hd1.frozen 1
  have hb : Below w.heap.size w w1 := ((Below.refl _ w).alloc (Nat.le_refl _) _).trans (h4.mono (by simp))
  have hbf : ∀ u v, Below w.heap.size w ((w1.setCell ⟨w.heap.size, 0, none⟩ u).setCell ⟨w.heap.size, 1, none⟩ v) := fun u v => (hb.setCell (p := ⟨w.heap.size, 0, none⟩) (Nat.le_refl _) _).setCell (p := ⟨w.heap.size, 1, none⟩) (Nat.le_refl _) _
  have Hb := Lib.hid hbf
  clear hd1 h4 hb hbf
  clear Hd k0 k1 h3 Hlen
  obtain ⟨L, hL⟩ : ∃ L, lmN xs n = L := ⟨_, rfl⟩
  have HL := Lib.hid hL
  rw [hL] at h1 ⊢
  clear hL Cn hl
  rcases L with _ | L
  · cases neg <;> (go_wp2; go_ret; exact ⟨by rw [HL.out]; rfl, Hb.out _ _⟩)
  · have hp' : (0 : Int) < (L : Int) + 1 := by omega
    cases neg <;> (go_wp2; go_ret; exact ⟨by rw [HL.out]; rfl, Hb.out _ _⟩)

set_option maxRecDepth 100000 in
/-- zint.Of a number that is not less than nought. -/
theorem zof_pos (x : Int) (w : World) (h0 : 0 ≤ x) (h1 : x ≤ 9223372036854775807) :
    Calls Try.prog 44 #[.int .i64 x] w (GivesInt w false ([x].take (lmN [x] 1))) := by
  have Cn := Lib.hid (fun W (h : Limbs W (some ⟨w.heap.size + 1, 0, none⟩) 1 [x]) => zmade_any false (some ⟨w.heap.size + 1, 0, none⟩) 1 1 [x] W h (by omega) (by omega) (by omega))
  have hd := (Duo.new w (.bool false) (.slice none 0 0)).bel ((Below.refl _ _).alloc (Nat.le_refl _) (.cells #[.int .u64 x] 77))
  have hlm := Limbs.one (w.alloc (.cells #[.bool false, .slice none 0 0] 34)) 77 h0 (x := x) (by omega)
  rw [World.size_alloc] at hlm
  have Hlm := Lib.hid hlm
  have Hd := Lib.hid hd
  clear hd hlm
  go_enter Try.func44, Try.ntmps44
  go_wp2_with fail
  refine (Cn.out _ (by exact Hlm.out)).mono ?_
  rintro e w1 ⟨A1, c1, rfl, h2, h3, h4, h5⟩
  have hd1 := Hd.out.bel h5
  have k0 := hd1.cell0
  have k1 := hd1.cell1
  have f0 := hd1.frozen 0
  have f1 := hd1.frozen 1
  have hb : Below w.heap.size w w1 := (((Below.refl _ w).alloc (Nat.le_refl _) _).alloc (by simp) _).trans (h5.mono (by simp; omega))
  have Hd1 := Lib.hid hd1
  clear hd1 h5
  go_wp2
  exact bodyPost_ret (results_cell_row (fn := Try.f44) rfl _ _ _ _ _ _ _ rfl (Hd1.out.set _ _) Try.underlying34 rfl aint_size) rfl
    ⟨A1, c1, by rw [List.length_take]; rfl, h2, h3, Hd1.out.limbs _ _ rfl rfl h4, (hb.setCell (p := ⟨w.heap.size, 0, none⟩) (Nat.le_refl _) _).setCell (p := ⟨w.heap.size, 1, none⟩) (Nat.le_refl _) _⟩
theorem limbs_of {x : Int} (_h0 : 0 ≤ x) : limbs ([x].take (lmN [x] 1)) = x.toNat := by
  rw [limbs_lmN (by simp)]
  show x.toNat + 2 ^ 64 * 0 = _
  omega

end Go.Proofs.Ytjmbejodcloapaa
