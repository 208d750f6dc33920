/- Words on memory: a slice of limbs of 64 bits. No program in sight.
   Contracts: naturals and integers, as far as powers ask for them: the program's.
   Contracts: integers made, their sign, how many bits: the program's.
   Contracts: rests of powers: the program's. -/
import Derived.Test.YtpikakapflebkaaGreatBase
import Derived.Test.YtpikakapflebkaaGreatPolyB
import Derived.Lib.BitFns
import Derived.Test.YtpikakapflebkaaGreatFpolyBase
import Derived.Test.YtpikakapflebkaaGreatLen64
import Derived.Deep.LoopGhost
import Derived.OwnWalk
import Derived.Lib.SliceRun
import Derived.Laws.Bits64b
namespace Cl
open Go Go.RowKit

def lmbs (xs : List Int) : List Value := xs.map (Value.int .u64)
theorem lmbs_length (xs : List Int) : (lmbs xs).length = xs.length := by simp [lmbs]
theorem lmbs_get {xs : List Int} {i : Nat} (h : i < xs.length) : (lmbs xs)[i]? = some (.int .u64 (nth xs i)) := by
  simp [lmbs, nth_lt h, h]
theorem lmbs_oneCell (xs : List Int) : ∀ u ∈ lmbs xs, u.oneCell' = true := by
  intro u hu
  simp only [lmbs, List.mem_map] at hu
  obtain ⟨x, _, rfl⟩ := hu
  rfl
/-- The slice at A, of n elements, reads as the limbs xs. -/
structure Limbs (w : World) (A : Option Addr) (n : Nat) (xs : List Int) : Prop where
  len : xs.length = n
  at_ : 0 < n → ∃ b o, A = some ⟨b, o, none⟩ ∧ b < w.heap.size ∧ ∀ i, i < n → w.cell? ⟨b, o + i, none⟩ = some (.int .u64 (nth xs i))
  ok : IsLimbs xs
section
variable {w w' : World} {A : Option Addr} {n : Nat} {xs : List Int}
theorem Limbs.keep (h : Limbs w A n xs) (hs : w.heap.size ≤ w'.heap.size) (hk : ∀ p : Addr, p.block < w.heap.size → w'.cell? p = w.cell? p) : Limbs w' A n xs :=
  ⟨h.len, fun hn => by
    obtain ⟨b, o, e, hb, hc⟩ := h.at_ hn
    exact ⟨b, o, e, by omega, fun i hi => (hk ⟨b, o + i, none⟩ hb).trans (hc i hi)⟩, h.ok⟩
theorem Limbs.below (h : Limbs w A n xs) {B : Nat} (hb : Below B w w') (hB : w.heap.size ≤ B) : Limbs w' A n xs := h.keep hb.size fun _ hp => hb.cell (by omega)
theorem Limbs.bel (h : Limbs w A n xs) (hb : Below w.heap.size w w') : Limbs w' A n xs := h.below hb (Nat.le_refl _)
theorem Limbs.drew (h : Limbs w A n xs) : Limbs w.drew A n xs := ⟨h.len, h.at_, h.ok⟩
theorem Limbs.alloc (h : Limbs w A n xs) (o : Obj) : Limbs (w.alloc o) A n xs := h.keep (by simp) fun p hp => World.cell?_alloc_lt w o p hp
theorem IsLimbs.take {xs : List Int} (h : IsLimbs xs) (k : Nat) : IsLimbs (xs.take k) := fun i => by
  by_cases hi : i < k
  · have : nth (xs.take k) i = nth xs i := by unfold nth; simp [List.getD, hi]
    rw [this]; exact h i
  · rw [nth_ge (by simp; omega)]; omega
theorem nth_take {xs : List Int} {k i : Nat} (hi : i < k) : nth (xs.take k) i = nth xs i := by unfold nth; simp [List.getD, hi]
theorem Limbs.take (h : Limbs w A n xs) {k : Nat} (hk : k ≤ n) : Limbs w A k (xs.take k) :=
  ⟨by rw [List.length_take, h.len]; omega, fun h0 => by
    obtain ⟨b, o, e, hb, hc⟩ := h.at_ (by omega)
    exact ⟨b, o, e, hb, fun i hi => by rw [nth_take hi]; exact hc i (by omega)⟩, h.ok.take k⟩
theorem Limbs.nil (w : World) (A : Option Addr) : Limbs w A 0 [] := ⟨rfl, fun h => absurd h (by omega), fun i => by rw [nth_ge (by simp)]; omega⟩
theorem Limbs.reads (h : Limbs w A n xs) : Reads w w.heap.size 1 A n (lmbs xs) :=
  ⟨by rw [lmbs_length, h.len, Nat.mul_one], fun h0 => by
    obtain ⟨b, o, e, hb, hc⟩ := h.at_ h0
    refine ⟨_, e, hb, fun j u hu => ?_⟩
    have hj : j < n := by
      have := (List.getElem?_eq_some_iff.1 hu).1
      rw [lmbs_length, h.len] at this; exact this
    rw [lmbs_get (by rw [h.len]; exact hj)] at hu
    injection hu with hu
    rw [← hu]
    have : (⟨b, o, none⟩ : Addr).add j = ⟨b, o + j, none⟩ := by
      unfold Addr.add; split
      · rename_i e; subst e; rfl
      · rfl
    rw [this]; exact hc j hj⟩
theorem Limbs.of_own {base : Nat} {e : TypeId} {c : Nat} (h : w.ownsRow base e 1 (.slice A n c) n (lmbs xs)) (hok : IsLimbs xs) : Limbs w A n xs := by
  have hl := h.1
  rw [lmbs_length, Nat.mul_one] at hl
  refine ⟨hl, fun hn => ?_, hok⟩
  rcases h.2 with ⟨h', h0⟩ | ⟨g, cap, cur, hv, _, hg, hnc, hcm, hcs, htake⟩
  · omega
  · simp only [Value.slice.injEq] at hv
    obtain ⟨rfl, _, rfl⟩ := hv
    refine ⟨g, 0, rfl, (Array.getElem?_eq_some_iff.1 hg).1, fun i hi => ?_⟩
    rw [Nat.zero_add, cell_of_row w g i cur e (0, 0) hg]
    have := lmbs_get (xs := xs) (i := i) (by omega)
    rw [← htake, List.getElem?_take, if_pos (by omega)] at this
    simpa using this
/-- One limb in new memory. -/
theorem Limbs.one (w : World) (t : TypeId) {x : Int} (h0 : 0 ≤ x) (h1 : x < 18446744073709551616) : Limbs (w.alloc (.cells #[.int .u64 x] t)) (some ⟨w.heap.size, 0, none⟩) 1 [x] :=
  ⟨rfl, fun _ => ⟨_, 0, rfl, by simp, fun i hi => by
    obtain rfl : i = 0 := by omega
    exact cell_new0 w _ t⟩, fun i => by
    match i with
    | 0 => exact ⟨h0, h1⟩
    | i + 1 => rw [nth_ge (by simp)]; omega⟩
end
/-- How many limbs are left without noughts at the end. -/
def lmN (xs : List Int) (n : Nat) : Nat := plen (nth xs) n
theorem lmN_le (xs : List Int) (n : Nat) : lmN xs n ≤ n := plen_le _ _
theorem limbs_append (xs ys : List Int) : limbs (xs ++ ys) = limbs xs + 2 ^ (64 * xs.length) * limbs ys := by
  induction xs with
  | nil => simp [limbs]
  | cons x xs ih =>
    show x.toNat + 2 ^ 64 * limbs (xs ++ ys) = x.toNat + 2 ^ 64 * limbs xs + 2 ^ (64 * (xs.length + 1)) * limbs ys
    rw [ih, Nat.mul_succ, Nat.add_comm (64 * xs.length), Nat.pow_add, Nat.mul_add, Nat.mul_assoc]; omega
theorem limbs_take_succ {xs : List Int} {k : Nat} (h : k < xs.length) : limbs (xs.take (k + 1)) = limbs (xs.take k) + 2 ^ (64 * k) * (nth xs k).toNat := by
  have e : xs.take (k + 1) = xs.take k ++ [nth xs k] := by rw [nth_lt h]; exact List.take_succ_eq_append_getElem h
  rw [e, limbs_append, List.length_take, Nat.min_eq_left (by omega)]
  show _ + _ * ((nth xs k).toNat + 2 ^ 64 * 0) = _
  rw [Nat.mul_zero, Nat.add_zero]
theorem limbs_lmN {xs : List Int} {n : Nat} (hn : n ≤ xs.length) : limbs (xs.take (lmN xs n)) = limbs (xs.take n) := by
  induction n with
  | zero => rfl
  | succ n ih =>
    unfold lmN
    by_cases h : nth xs n = 0
    · rw [plen_drop h, limbs_take_succ (by omega), h]
      show _ = _ + _ * 0
      rw [Nat.mul_zero, Nat.add_zero]; exact ih (by omega)
    · rw [plen_stop h]
theorem lmN_zero {xs : List Int} {n : Nat} (hn : xs.length = n) (h : lmN xs n = 0) : limbs xs = 0 := by
  have := limbs_lmN (xs := xs) (n := n) (by omega)
  rw [h, List.take_of_length_le (i := n) (by omega)] at this
  rw [← this]; rfl
theorem lt_bitLen {x : Nat} (h : x < 2 ^ 64) : x < 2 ^ Lib.bitLen x := by
  unfold Lib.bitLen
  revert h
  generalize 64 = f
  induction f generalizing x with
  | zero => intro h; simpa [Lib.bitLenAux] using h
  | succ f ih =>
    intro h
    unfold Lib.bitLenAux
    split
    · rename_i e; subst e; decide
    · rw [Nat.pow_succ] at h
      have := ih (x := x / 2) (by omega)
      rw [Nat.pow_add]; omega
/-- How many bits the program tells. -/
def bitsN (xs : List Int) (n : Nat) : Nat := if lmN xs n = 0 then 0 else 64 * (lmN xs n - 1) + Lib.bitLen (nth xs (lmN xs n - 1)).toNat
theorem bitsN_le {xs : List Int} (h : IsLimbs xs) (n : Nat) : bitsN xs n ≤ 64 * n := by
  unfold bitsN
  split
  · omega
  · have h1 := lmN_le xs n
    have h2 := h (lmN xs n - 1)
    have := Lib.bitLen_le (nth xs (lmN xs n - 1)).toNat 64 (by omega) (by omega)
    omega
theorem limbs_lt_bitsN {xs : List Int} (h : IsLimbs xs) {n : Nat} (hn : xs.length = n) : limbs xs < 2 ^ bitsN xs n := by
  have e := limbs_lmN (xs := xs) (n := n) (by omega)
  rw [List.take_of_length_le (i := n) (by omega)] at e
  unfold bitsN
  by_cases h0 : lmN xs n = 0
  · rw [if_pos h0, ← e, h0]; show (0 : Nat) < 2 ^ 0; decide
  · rw [if_neg h0]
    have h1 := lmN_le xs n
    have h2 := h (lmN xs n - 1)
    obtain ⟨k, hk⟩ : ∃ k, lmN xs n = k + 1 := ⟨lmN xs n - 1, by omega⟩
    rw [hk] at e ⊢ h2
    rw [Nat.add_sub_cancel] at h2 ⊢
    rw [← e, limbs_take_succ (by omega)]
    have h3 := limbs_lt (h.take k)
    rw [List.length_take, Nat.min_eq_left (by omega)] at h3
    have h4 := lt_bitLen (x := (nth xs k).toNat) (by omega)
    rw [Nat.pow_add]
    have h5 : 2 ^ (64 * k) * ((nth xs k).toNat + 1) ≤ 2 ^ (64 * k) * 2 ^ Lib.bitLen (nth xs k).toNat := Nat.mul_le_mul_left _ h4
    rw [Nat.mul_add, Nat.mul_one] at h5
    omega
end Cl

namespace Go.Proofs.YtpikakapflebkaaGreat
open Go.RowKit Cl
attribute [local go_sem ↓] Go.wp_at_zero Go.wp_at_succ

theorem uint_info : (Tryz.prog.info? 88).map (fun i => (i.zero, i.size, i.bytes)) = some (some (.int .u64 0), 1, 8) := by kernel_rfl
/-- A call that hands back limbs, and turns nothing that was there. -/
def GivesLimbs (w : World) (xs : List Int) (e : Ending) (w' : World) : Prop :=
  ∃ A c, e = .returned (.slice A xs.length c) ∧ xs.length ≤ c ∧ c ≤ 9223372036854775807 ∧ Limbs w' A xs.length xs ∧ Below w.heap.size w w'

set_option maxRecDepth 100000 in
theorem nplain_any (A : Option Addr) (n c : Nat) (xs : List Int) (w : World) (hx : Limbs w A n xs) (hn : n ≤ c) (hc : c ≤ 9223372036854775807) :
    Calls Tryz.prog 108 #[.slice A n c] w fun e w' => e = .returned (.slice A (lmN xs n) c) ∧ w' = w := by
  go_enter Tryz.func108, Tryz.ntmps108
  obtain ⟨wo, rfl⟩ : ∃ wo : World, wo = w := ⟨_, rfl⟩
  go_wp2
  go_loopg [0] (n + 1) (fun gk s wr => ∃ m : Nat, m ≤ n ∧ m < gk ∧ s = .slice A m c ∧ Hid (lmN xs n = lmN xs m) ∧ wr = wo)
  case atStart => exact ⟨n, by omega, by omega, rfl, rfl, rfl⟩
  case round =>
    obtain ⟨m, hm, hgk, rfl, hpl, rfl⟩ := hrel
    cases m with
    | zero =>
      have Hfin : Hid (lmN xs n = 0) := hpl.out
      go_wp2
      go_ret
      refine ⟨?_, rfl⟩
      rw [Hfin.out]; rfl
    | succ m =>
      obtain ⟨b, o, rfl, hb, hc'⟩ := hx.at_ (by omega)
      have hcy := hc' m (by omega)
      clear hc'
      have hmc : m ≤ c := by omega
      have hmc' : (m : Int) ≤ (c : Int) := by omega
      have hmp : (0 : Int) < (m : Int) + 1 := by omega
      by_cases hz : nth xs m = 0
      · rw [hz] at hcy
        have Hz := Lib.hid hz
        clear hz
        go_wp2
        go_roundg (gk - 1)
        case measure => omega
        case rel => exact ⟨m, by omega, by omega, rfl, by show _ = _; rw [hpl.out]; exact plen_drop Hz.out, rfl⟩
      · have hz' : (nth xs m == 0) = false := beq_eq_false_iff_ne.2 hz
        have Hfin : Hid (lmN xs n = m + 1) := hpl.out.trans (plen_stop hz)
        clear hz
        go_wp2
        go_ret
        refine ⟨?_, rfl⟩
        rw [Hfin.out]; rfl

theorem neq_nil (w : World) (a : Option Addr) (n c n' c' : Nat) : (binOp .eql 65 (.slice a n c) (.slice none n' c')).run Tryz.prog w = .ok (.bool a.isNone) w :=
  Lib.run_eql_slice_nil w _ _ a n c n' c' Tryz.underlying65

set_option maxRecDepth 100000 in
theorem nclone_any (A : Option Addr) (n c : Nat) (xs : List Int) (w : World) (hx : Limbs w A n xs) (hn : n * 8 ≤ 140737488355328) :
    Calls Tryz.prog 140 #[.slice A n c] w (GivesLimbs w xs) := by
  obtain rfl := hx.len
  have hr := Lib.hid hx.reads
  have hok := Lib.hid hx.ok
  have q22 := neq_nil
  obtain ⟨i0, hi, hz0, hz1, hz2⟩ := info_parts uint_info
  rcases A with _ | ad
  · have h0 : xs.length = 0 := by
      rcases Nat.eq_zero_or_pos xs.length with h | h
      · exact h
      · obtain ⟨b, o, e, _⟩ := hx.at_ h
        cases e
    have Hfin : Hid (GivesLimbs w xs (.returned (.slice none 0 0)) w) := by
      refine ⟨none, 0, by rw [h0], by omega, by omega, ?_, Below.refl _ _⟩
      rw [List.eq_nil_of_length_eq_zero h0]; exact Limbs.nil _ _
    clear h0 hx
    go_enter Tryz.func140, Tryz.ntmps140
    go_wp2
    go_ret
    exact Hfin.out
  · go_enter Tryz.func140, Tryz.ntmps140
    go_wp2_with (at_builtin; refine wpList_append_any (w := w.alloc (.cells #[] 88)) rfl _ _ 65 rfl w.heap.size 88 i0 (.int .u64 0) 1 8 Tryz.underlying65 hi hz0 hz1 hz2 rfl (by decide) _ 0 [] rfl (own_empty w 88 (Nat.le_refl _)) w.heap.size (some ad) xs.length c (lmbs xs) rfl (hr.out.alloc (Nat.le_refl _) _) (lmbs_oneCell xs) (by unfold maxLen; omega) (by omega) (by simp) ?_; intro v' w1 hown hgrow hat)
    have hown2 : w1.ownsRow w.heap.size 88 1 v' xs.length (lmbs xs) := by simpa using hown
    have hb : Below w.heap.size w w1 := ((Below.refl _ w).alloc (Nat.le_refl _) _).grown hgrow (by simp) (fun k hk => ((own_empty w 88 (Nat.le_refl _)).lt k hk).1)
    go_wp2
    go_ret
    obtain ⟨A', c', rfl⟩ := own_slice hown2
    have hcc : xs.length ≤ c' ∧ c' ≤ 9223372036854775807 := by
      rcases hown2.2 with ⟨hv, h0⟩ | ⟨g, cap, cur, hv, _, _, hnc, hcm, _⟩
      · injection hv; omega
      · injection hv with _ _ e
        unfold maxLen at hcm; omega
    exact ⟨A', c', rfl, hcc.1, hcc.2, Limbs.of_own hown2 hok.out, hb⟩

/-- nat.Norm. -/
theorem nnorm_any (A : Option Addr) (n c : Nat) (xs : List Int) (w : World) (hx : Limbs w A n xs) (hn : n ≤ c) (hc : c ≤ 9223372036854775807) (hn8 : n * 8 ≤ 140737488355328) :
    Calls Tryz.prog 109 #[.slice A n c] w (GivesLimbs w (xs.take (lmN xs n))) := by
  have hl := lmN_le xs n
  go_enter Tryz.func109, Tryz.ntmps109
  go_wp2_with fail
  refine (nplain_any A n c xs _ hx hn hc).mono ?_
  rintro e w' ⟨rfl, rfl⟩
  go_wp2_with fail
  refine (nclone_any A _ c _ _ (hx.take hl) (by omega)).mono ?_
  rintro e w1 ⟨A1, c1, rfl, h1, h2, h3, h4⟩
  go_wp2
  go_ret
  refine ⟨A1, c1, ?_, h1, h2, h3, h4⟩
  rw [List.length_take]; rfl
end Go.Proofs.YtpikakapflebkaaGreat

namespace Go.Proofs.YtpikakapflebkaaGreat
open Go.RowKit Cl
attribute [local go_sem ↓] Go.wp_at_zero Go.wp_at_succ

/-- A call that hands back an integer, and turns nothing that was there. -/
def GivesInt (w : World) (neg : Bool) (xs : List Int) (e : Ending) (w' : World) : Prop :=
  ∃ A c, e = .returned (.agg #[.bool neg, .slice A xs.length c]) ∧ xs.length ≤ c ∧ c ≤ 9223372036854775807 ∧ Limbs w' A xs.length xs ∧ Below w.heap.size w w'
theorem aint_size : (Tryz.prog.info? 67).map (·.size) = some 2 := by kernel_rfl

/-- Block g is just an integer: its sign, its limbs. -/
def Duo (w : World) (g : Nat) (u v : Value) : Prop := w.heap[g]? = some (.cells #[u, v] 67 (0, 0))
section
variable {w w' : World} {g : Nat} {u v : Value}
theorem Duo.lt (h : Duo w g u v) : g < w.heap.size := (Array.getElem?_eq_some_iff.1 h).1
theorem Duo.cell0 (h : Duo w g u v) : w.cell? ⟨g, 0, none⟩ = some u := by rw [cell_of_row w g 0 _ _ (0, 0) h]; rfl
theorem Duo.cell1 (h : Duo w g u v) : w.cell? ⟨g, 1, none⟩ = some v := by rw [cell_of_row w g 1 _ _ (0, 0) h]; rfl
theorem Duo.frozen (h : Duo w g u v) (i : Nat) : w.frozen? ⟨g, i, none⟩ = false := by unfold Duo at h; simp [World.frozen?, h]
theorem Duo.keep (h : Duo w g u v) (hk : w'.heap[g]? = w.heap[g]?) : Duo w' g u v := hk.trans h
theorem Duo.bel (h : Duo w g u v) (hb : Below w.heap.size w w') : Duo w' g u v := h.keep (hb.block g h.lt)
theorem Duo.set (h : Duo w g u v) (a b : Value) : Duo ((w.setCell ⟨g, 0, none⟩ a).setCell ⟨g, 1, none⟩ b) g a b := by
  unfold Duo at h ⊢
  simp [World.setCell, Array.getElem?_modify, h]
theorem Duo.new (w : World) (u v : Value) : Duo (w.alloc (.cells #[u, v] 67)) w.heap.size u v := heap_alloc_new w _
theorem Duo.limbs (h : Duo w g u v) (a b : Value) {A : Option Addr} {n c : Nat} {s : Bool} (hu : u = .bool s) (hv : v = .slice A n c) {B : Option Addr} {m : Nat} {ys : List Int} (hi : Limbs w B m ys) : Limbs ((w.setCell ⟨g, 0, none⟩ a).setCell ⟨g, 1, none⟩ b) B m ys := by
  refine ⟨hi.len, fun hm => ?_, hi.ok⟩
  obtain ⟨bb, o, e, hb, hc⟩ := hi.at_ hm
  refine ⟨bb, o, e, by simpa using hb, fun i hlt => ?_⟩
  have hne : bb ≠ g ∨ (o + i ≠ 0 ∧ o + i ≠ 1) := by
    by_cases e1 : bb = g
    · subst e1
      refine .inr ⟨fun e2 => ?_, fun e2 => ?_⟩
      · have := hc i hlt
        rw [e2, h.cell0, hu] at this; cases this
      · have := hc i hlt
        rw [e2, h.cell1, hv] at this; cases this
    · exact .inl e1
  rw [World.cell?_setCell_other _ _ _ _ (fun e => by injection e; omega), World.cell?_setCell_other _ _ _ _ (fun e => by injection e; omega)]
  exact hc i hlt
end

set_option maxRecDepth 100000 in
theorem zmade_any (neg : Bool) (A : Option Addr) (n c : Nat) (xs : List Int) (w : World) (hx : Limbs w A n xs) (hn : n ≤ c) (hc : c ≤ 9223372036854775807) (hn8 : n * 8 ≤ 140737488355328) :
    Calls Tryz.prog 73 #[.bool neg, .slice A n c] w (GivesInt w (neg && decide (0 < lmN xs n)) (xs.take (lmN xs n))) := by
  have hl := lmN_le xs n
  have hlen : (xs.take (lmN xs n)).length = lmN xs n := by rw [List.length_take, hx.len]; omega
  have Hlen := Lib.hid hlen
  have Cn := Lib.hid (fun W (h : Below w.heap.size w W) => nnorm_any A n c xs W (hx.bel h) hn hc hn8)
  have hd := Duo.new w (.bool false) (.slice none 0 0)
  clear hlen hx
  go_enter Tryz.func73, Tryz.ntmps73
  go_wp2_with fail
  refine (Cn.out _ (by exact (Below.refl _ _).alloc (Nat.le_refl _) _)).mono ?_
  rintro e w1 ⟨A1, c1, rfl, h1, h2, h3, h4⟩
  rw [Hlen.out] at h1 h3 ⊢
  have hd1 := hd.bel h4
  have c0 := hd1.cell0
  have c1' := hd1.cell1
  have f0 := hd1.frozen 0
  have f1 := hd1.frozen 1
  have hb : Below w.heap.size w w1 := ((Below.refl _ w).alloc (Nat.le_refl _) _).trans (h4.mono (by simp))
  have Hd := Lib.hid hd1
  clear hd hd1 h4
  have fin : ∀ b : Bool, GivesInt w b (xs.take (lmN xs n)) (.returned (.agg #[.bool b, .slice A1 (lmN xs n) c1])) ((w1.setCell ⟨w.heap.size, 0, none⟩ (.bool b)).setCell ⟨w.heap.size, 1, none⟩ (.slice A1 (lmN xs n) c1)) := fun b => by
    refine ⟨A1, c1, ?_, ?_, h2, ?_, (hb.setCell (p := ⟨w.heap.size, 0, none⟩) (Nat.le_refl _) _).setCell (p := ⟨w.heap.size, 1, none⟩) (Nat.le_refl _) _⟩
    · rw [Hlen.out]
    · rw [Hlen.out]; exact h1
    · rw [Hlen.out]; exact Hd.out.limbs _ _ rfl rfl h3
  have Fin := Lib.hid fin
  clear fin
  cases neg with
  | false =>
    go_wp2
    exact bodyPost_ret (v := .agg #[.bool false, .slice A1 (lmN xs n) c1]) (results_cell_row (fn := Tryz.f73) rfl _ _ _ _ _ _ _ rfl (Hd.out.set (.bool false) (.slice A1 (lmN xs n) c1)) Tryz.underlying67 rfl aint_size) rfl (Fin.out _)
  | true =>
    go_wp2
    exact bodyPost_ret (v := .agg #[.bool (decide (0 < lmN xs n)), .slice A1 (lmN xs n) c1]) (results_cell_row (fn := Tryz.f73) rfl _ _ _ _ _ _ _ rfl (Hd.out.set (.bool (decide (0 < lmN xs n))) (.slice A1 (lmN xs n) c1)) Tryz.underlying67 rfl aint_size) rfl (Fin.out _)

set_option maxRecDepth 100000 in
theorem znorm_any (neg : Bool) (A : Option Addr) (n c : Nat) (xs : List Int) (w : World) (hx : Limbs w A n xs) (hn : n ≤ c) (hc : c ≤ 9223372036854775807) (hn8 : n * 8 ≤ 140737488355328) :
    Calls Tryz.prog 106 #[.agg #[.bool neg, .slice A n c]] w (GivesInt w (neg && decide (0 < lmN xs n)) (xs.take (lmN xs n))) := by
  have Cn := Lib.hid (fun W (h : Below w.heap.size w W) => zmade_any neg A n c xs W (hx.bel h) hn hc hn8)
  have hd0 := (Duo.new w (.bool neg) (.slice A n c)).bel ((Below.refl _ _).alloc (Nat.le_refl _) (.cells #[.bool false, .slice none 0 0] 67))
  have hd := Duo.new (w.alloc (.cells #[.bool neg, .slice A n c] 67)) (.bool false) (.slice none 0 0)
  rw [World.size_alloc] at hd
  have c0 := hd0.cell0
  have c1 := hd0.cell1
  have Hd := Lib.hid hd
  clear hd hd0 hx
  go_enter Tryz.func106, Tryz.ntmps106
  go_wp2_with fail
  refine (Cn.out _ (by exact ((Below.refl _ _).alloc (Nat.le_refl _) _).alloc (by simp) _)).mono ?_
  rintro e w1 ⟨A1, c1', rfl, h1, h2, h3, h4⟩
  have hd1 := Hd.out.bel h4
  have k0 := hd1.cell0
  have k1 := hd1.cell1
  have f0 := hd1.frozen 0
  have f1 := hd1.frozen 1
  have hb : Below w.heap.size w w1 := (((Below.refl _ w).alloc (Nat.le_refl _) _).alloc (by simp) _).trans (h4.mono (by simp; omega))
  have Hd1 := Lib.hid hd1
  clear hd1 h4
  go_wp2
  exact bodyPost_ret (results_cell_row (fn := Tryz.f106) rfl _ _ _ _ _ _ _ rfl (Hd1.out.set _ _) Tryz.underlying67 rfl aint_size) rfl
    ⟨A1, c1', by rw [List.length_take], h1, h2, Hd1.out.limbs _ _ rfl rfl h3, (hb.setCell (p := ⟨w.heap.size + 1, 0, none⟩) (by simp) _).setCell (p := ⟨w.heap.size + 1, 1, none⟩) (by simp) _⟩

/-- An integer's sign: of how many limbs it is. -/
def signN (neg : Bool) : Nat → Int
  | 0 => 0
  | _ + 1 => if neg then -1 else 1
set_option maxRecDepth 100000 in
/-- zint.Sign, as far as it is asked for: whether it is less than nought. -/
theorem zsign_any (neg : Bool) (A : Option Addr) (n c : Nat) (xs : List Int) (w : World) (hx : Limbs w A n xs) (hn : n ≤ c) (hc : c ≤ 9223372036854775807) (hn8 : n * 8 ≤ 140737488355328) :
    Calls Tryz.prog 70 #[.agg #[.bool neg, .slice A n c]] w (fun e w' => e = .returned (.int .i64 (signN neg (lmN xs n))) ∧ Below w.heap.size w w') := by
  have hl := lmN_le xs n
  have hlen : (xs.take (lmN xs n)).length = lmN xs n := by rw [List.length_take, hx.len]; omega
  have Hlen := Lib.hid hlen
  have Cn := Lib.hid (fun W (h : Below w.heap.size w W) => znorm_any neg A n c xs W (hx.bel h) hn hc hn8)
  have hd := Duo.new w (.bool neg) (.slice A n c)
  have k0 := hd.cell0
  have k1 := hd.cell1
  have Hd := Lib.hid hd
  clear hd hlen hx
  go_enter Tryz.func70, Tryz.ntmps70
  go_wp2_with fail
  refine (Cn.out _ (by exact (Below.refl _ _).alloc (Nat.le_refl _) _)).mono ?_
  rintro e w1 ⟨A1, c1, rfl, h1, h2, h3, h4⟩
  rw [Hlen.out] at h1 h3 ⊢
  have hd1 := Hd.out.bel h4
  have c0 := hd1.cell0
  have c1' := hd1.cell1
  have f0 := hd1.frozen 0
  have f1 := hd1.frozen 1
  have hb : Below w.heap.size w w1 := ((Below.refl _ w).alloc (Nat.le_refl _) _).trans (h4.mono (by simp))
  have hbf : ∀ u v, Below w.heap.size w ((w1.setCell ⟨w.heap.size, 0, none⟩ u).setCell ⟨w.heap.size, 1, none⟩ v) := fun u v => (hb.setCell (p := ⟨w.heap.size, 0, none⟩) (Nat.le_refl _) _).setCell (p := ⟨w.heap.size, 1, none⟩) (Nat.le_refl _) _
  have Hb := Lib.hid hbf
  clear hd1 h4 hb hbf
  clear Hd k0 k1 h3 Hlen
  obtain ⟨L, hL⟩ : ∃ L, lmN xs n = L := ⟨_, rfl⟩
  have HL := Lib.hid hL
  rw [hL] at h1 ⊢
  clear hL Cn hl
  rcases L with _ | L
  · cases neg <;> (go_wp2; go_ret; exact ⟨by rw [HL.out]; rfl, Hb.out _ _⟩)
  · have hp' : (0 : Int) < (L : Int) + 1 := by omega
    cases neg <;> (go_wp2; go_ret; exact ⟨by rw [HL.out]; rfl, Hb.out _ _⟩)

set_option maxRecDepth 100000 in
/-- zint.Of a number that is not less than nought. -/
theorem zof_pos (x : Int) (w : World) (h0 : 0 ≤ x) (h1 : x ≤ 9223372036854775807) :
    Calls Tryz.prog 42 #[.int .i64 x] w (GivesInt w false ([x].take (lmN [x] 1))) := by
  have Cn := Lib.hid (fun W (h : Limbs W (some ⟨w.heap.size + 1, 0, none⟩) 1 [x]) => zmade_any false (some ⟨w.heap.size + 1, 0, none⟩) 1 1 [x] W h (by omega) (by omega) (by omega))
  have hd := (Duo.new w (.bool false) (.slice none 0 0)).bel ((Below.refl _ _).alloc (Nat.le_refl _) (.cells #[.int .u64 x] 88))
  have hlm := Limbs.one (w.alloc (.cells #[.bool false, .slice none 0 0] 67)) 88 h0 (x := x) (by omega)
  rw [World.size_alloc] at hlm
  have Hlm := Lib.hid hlm
  have Hd := Lib.hid hd
  clear hd hlm
  go_enter Tryz.func42, Tryz.ntmps42
  go_wp2_with fail
  refine (Cn.out _ (by exact Hlm.out)).mono ?_
  rintro e w1 ⟨A1, c1, rfl, h2, h3, h4, h5⟩
  have hd1 := Hd.out.bel h5
  have k0 := hd1.cell0
  have k1 := hd1.cell1
  have f0 := hd1.frozen 0
  have f1 := hd1.frozen 1
  have hb : Below w.heap.size w w1 := (((Below.refl _ w).alloc (Nat.le_refl _) _).alloc (by simp) _).trans (h5.mono (by simp; omega))
  have Hd1 := Lib.hid hd1
  clear hd1 h5
  go_wp2
  exact bodyPost_ret (results_cell_row (fn := Tryz.f42) rfl _ _ _ _ _ _ _ rfl (Hd1.out.set _ _) Tryz.underlying67 rfl aint_size) rfl
    ⟨A1, c1, by rw [List.length_take]; rfl, h2, h3, Hd1.out.limbs _ _ rfl rfl h4, (hb.setCell (p := ⟨w.heap.size, 0, none⟩) (Nat.le_refl _) _).setCell (p := ⟨w.heap.size, 1, none⟩) (Nat.le_refl _) _⟩
theorem limbs_of {x : Int} (_h0 : 0 ≤ x) : limbs ([x].take (lmN [x] 1)) = x.toNat := by
  rw [limbs_lmN (by simp)]
  show x.toNat + 2 ^ 64 * 0 = _
  omega

set_option maxRecDepth 100000 in
theorem nbits_any (A : Option Addr) (n c : Nat) (xs : List Int) (w : World) (hx : Limbs w A n xs) (hn : n ≤ c) (hc : c ≤ 9223372036854775807) (hn8 : n ≤ 1000000000) :
    Calls Tryz.prog 72 #[.slice A n c] w (fun e w' => e = .returned (.int .i64 (bitsN xs n : Nat)) ∧ w' = w) := by
  have hl := lmN_le xs n
  go_enter Tryz.func72, Tryz.ntmps72
  go_wp2_with fail
  refine (nplain_any A n c xs _ hx hn hc).mono ?_
  rintro e w' ⟨rfl, rfl⟩
  by_cases h0 : lmN xs n = 0
  · have hb : bitsN xs n = 0 := if_pos h0
    rw [h0]
    have Hb := Lib.hid hb
    clear hb h0
    go_wp2
    go_ret
    exact ⟨by rw [Hb.out]; rfl, rfl⟩
  · obtain ⟨k, hk⟩ : ∃ k, lmN xs n = k + 1 := ⟨lmN xs n - 1, by omega⟩
    have hb : bitsN xs n = 64 * k + Lib.bitLen (nth xs k).toNat := by
      unfold bitsN; rw [if_neg h0, hk]; rfl
    rw [hk]
    have Hb := Lib.hid hb
    obtain ⟨b, o, rfl, hb', hcl⟩ := hx.at_ (by omega)
    have hcy := hcl k (by omega)
    have hok := hx.ok k
    have hbl := Lib.bitLen_le (nth xs k).toNat 64 (by omega) (by omega)
    have hkn : (k : Int) ≤ 1000000000 := by omega
    clear hcl hb h0 hk
    generalize hbv : Lib.bitLen (nth xs k).toNat = bv at *
    have Cb : Hid (∀ W : World, Calls Tryz.prog 91 #[.int .u64 (nth xs k)] W fun e w' => e = .returned (.int .i64 (bv : Nat)) ∧ w' = W) := fun W => by
      rw [← hbv]; exact bits_len64 _ _ (by omega) (by omega)
    have hbk : (bv : Int) ≤ 64 := by omega
    clear hbv hok
    generalize nth xs k = x at *
    clear hbl hl
    have hk0 : (0 : Int) ≤ (k : Int) := by omega
    have e1 : IntKind.i64.wrap (k : Int) = (k : Int) := IntWalk.i64_in _ (by omega)
    have e2 : IntKind.i64.wrap (64 * (k : Int)) = 64 * (k : Int) := IntWalk.i64_in _ (by omega)
    have e3 : IntKind.i64.wrap (64 * (k : Int) + (bv : Int)) = 64 * (k : Int) + (bv : Int) := IntWalk.i64_in _ (by omega)
    go_wp2_with fail
    refine (Cb.out _).mono ?_
    rintro e w' ⟨rfl, rfl⟩
    go_wp2
    go_ret
    refine ⟨?_, rfl⟩
    rw [Hb.out]
    show Ending.returned (.int .i64 (64 * (k : Int) + (bv : Int))) = _
    rw [show ((64 * k + bv : Nat) : Int) = 64 * (k : Int) + (bv : Int) by omega]
end Go.Proofs.YtpikakapflebkaaGreat

namespace Go.Proofs.YtpikakapflebkaaGreat
open Go.RowKit Cl
attribute [local go_sem ↓] Go.wp_at_zero Go.wp_at_succ


theorem bit_one {x : Int} (h0 : 0 ≤ x) (h1 : x < 18446744073709551616) (j : Nat) : bits .and .u64 (x / 2 ^ j) 1 = ((x.toNat / 2 ^ j % 2 : Nat) : Int) := by
  obtain ⟨X, rfl⟩ : ∃ X : Nat, x = (X : Int) := ⟨x.toNat, by omega⟩
  have e : (X : Int) / 2 ^ j = ((X / 2 ^ j : Nat) : Int) := by rw [Int.natCast_ediv, Int.natCast_pow]; rfl
  have hle : X / 2 ^ j ≤ X := Nat.div_le_self _ _
  have := bits_and_u64_nat (X / 2 ^ j) 1 (by omega) (by decide)
  rw [e, Int.toNat_natCast]
  rw [Nat.and_one_is_mod] at this
  exact this
set_option maxRecDepth 100000 in
set_option maxHeartbeats 4000000 in
theorem ppow_yes (A B M : Option Addr) (n c k d m cm : Nat) (neg : Bool) (xs ls ms : List Int) (p : Int) (w : World) (hp : Pr p) (hx : Ints w A n xs) (hl : Limbs w B k ls) (hm : Ints w M m ms) (hn : n ≤ 900000000) (hmn : m ≤ 900000000) (hk : k ≤ 900000000) (hkd : k ≤ d) (hd : d ≤ 9223372036854775807)
    (hs : ¬ signN neg (lmN ls k) < 0) (hm0 : toP ⟨p, hp⟩ ms ≠ 0) :
    Calls Tryz.prog 41 #[.slice A n c, .agg #[.bool neg, .slice B k d], .slice M m cm, .int .i64 p] w (GivesPE w (powR (toP ⟨p, hp⟩ xs) (limbs ls) (toP ⟨p, hp⟩ ms)) 0) := by
  have hp1 := hp.two
  have hp2 := hp.max
  have Cs := Lib.hid (fun W (h : Below w.heap.size w W) => zsign_any neg B k d ls W (hl.bel h) hkd hd (by omega))
  have Ca := Lib.hid (fun W (h : Below w.heap.size w W) => pplain_any A n c xs p W hp (hx.bel h) (by omega))
  have Cm := Lib.hid (fun W (h : Below w.heap.size w W) => pplain_any M m cm ms p W hp (hm.bel h) (by omega))
  have Cb := Lib.hid (fun W (h : Below w.heap.size w W) => nbits_any B k d ls W (hl.bel h) hkd hd (by omega))
  have hla : (toP ⟨p, hp⟩ xs).len ≤ n := len_le_toP hx.len
  have hlm : (toP ⟨p, hp⟩ ms).len ≤ m := len_le_toP hm.len
  have hbit := Lib.hid (limbs_bit hl.ok)
  have hfull := Lib.hid (limbs_lt_bitsN hl.ok hl.len)
  have hble := bitsN_le hl.ok k
  have HL := Lib.hid hl
  generalize toP ⟨p, hp⟩ xs = a at *
  generalize toP ⟨p, hp⟩ ms = f at *
  have hd0 := Duo.new w (.bool neg) (.slice B k d)
  have k0 := hd0.cell0
  have k1 := hd0.cell1
  have Hd := Lib.hid hd0
  clear hd0 hx hm hl
  have hf0 := Poly.len_pos hm0
  go_enter Tryz.func41, Tryz.ntmps41
  go_wp2_with fail
  refine (chk_yes _ _ (by omega) (by omega) ((isPrime_iff p).2 hp)).mono ?_
  rintro e w' ⟨rfl, rfl⟩
  go_wp2_with fail
  refine (Cs.out _ (by exact (Below.refl _ _).alloc (Nat.le_refl _) _)).mono ?_
  rintro e w1 ⟨rfl, hb1⟩
  generalize signN neg (lmN ls k) = s at *
  have hbw : Below w.heap.size w w1 := ((Below.refl _ w).alloc (Nat.le_refl _) _).trans (hb1.mono (by simp))
  have hd1 := Hd.out.bel hb1
  clear hb1 k0 k1 Hd Cs
  go_wp2_with fail
  refine (Cm.out _ (by exact hbw)).mono ?_
  rintro e w2 ⟨A2, c2, rfl, hn2⟩
  have hb2 := hbw.trans (hn2.bel.mono hbw.size)
  have hd2 := hd1.bel hn2.bel
  have hrf := hn2.rd
  clear hn2 hd1 Cm
  have hfpos : (0 : Int) < (f.len : Int) := by omega
  have hfz : ((f.len : Int) == 0) = false := beq_eq_false_iff_ne.2 (by omega)
  go_wp2_with fail
  have hone : Ints (w2.alloc (.cells #[.int .i64 1] 3)) (some ⟨w2.heap.size, 0, none⟩) 1 (fromP (1 : Poly (Zp ⟨p, hp⟩))) := by
    rw [fromP_one hp]
    exact (Row.new w2 3 [1]).ints (fun i => by
      match i with
      | 0 => exact I64.small (by decide) (by decide)
      | i + 1 => rw [nth_ge (by simp)]; exact I64.zero)
  refine (pdivided_any _ A2 1 _ 1 c2 1 f _ hone (hrf.alloc _) (by omega) (by omega) hm0).mono ?_
  rintro e w3 ⟨Q3, cq3, A3, c3, rfl, -, hn3⟩
  have hal : Below w2.heap.size w2 (w2.alloc (.cells #[.int .i64 1] 3)) := (Below.refl _ _).alloc (Nat.le_refl _) _
  have hb3 := (hb2.trans (hal.mono hb2.size)).trans (hn3.bel.mono (by have := hb2.size; simp; omega))
  have hd3 := (hd2.bel hal).bel hn3.bel
  have hrf3 := (hrf.bel hal).bel hn3.bel
  have hN3 := newInts_sooner hn3 (hb2.trans (hal.mono hb2.size))
  clear hone hn3 hal hb2 hd2 hrf
  go_wp2_with fail
  refine (Ca.out _ (by exact hb3)).mono ?_
  rintro e w4 ⟨A4, c4, rfl, hn4⟩
  have hb4 := hb3.trans (hn4.bel.mono hb3.size)
  have hd4 := hd3.bel hn4.bel
  have hrf4 := hrf3.bel hn4.bel
  have hN4 := newInts_later hN3 hn4.bel
  have hra := hn4.rd
  clear hn4 hb3 hd3 hrf3 hN3 Ca
  go_wp2_with fail
  refine (pdivided_any A4 A2 _ _ c4 c2 a f _ hra hrf4 (by omega) (by omega) hm0).mono ?_
  rintro e w5 ⟨Q5, cq5, A5, c5, rfl, -, hn5⟩
  have hb5 := hb4.trans (hn5.bel.mono hb4.size)
  have hd5 := hd4.bel hn5.bel
  have hrf5 := hrf4.bel hn5.bel
  have hN5 := newInts_later hN4 hn5.bel
  have hrb := hn5.rd
  clear hn5 hb4 hd4 hrf4 hN4 hra
  have k0 := hd5.cell0
  have k1 := hd5.cell1
  go_wp2_with fail
  refine (Cb.out _ (by exact hb5)).mono ?_
  rintro e w' ⟨rfl, rfl⟩
  generalize hbd : bitsN ls k = b at *
  have e1 : IntKind.i64.wrap ((b : Int) - 1) = (b : Int) - 1 := IntWalk.i64_in _ (by omega)
  have hb0 : (0 : Int) ≤ (b : Int) := by omega
  go_wp2_with fail
  have HN := Lib.hid hN5
  have Hrf := Lib.hid hrf5
  have Hrb := Lib.hid hrb
  have Hb5 := Lib.hid hb5
  have Hd5 := Lib.hid hd5
  have h0N : Hid (powR a (topN (limbs ls) b 0) f = Poly.rem 1 f) := by
    show _ = _
    rw [topN_zero hfull.out, powR_zero]
  have hAl : Hid (Poly.Eqm f (Poly.rem a f) a) := Poly.eqm_rem _ hm0
  have hal : (Poly.rem a f).len ≤ 900000000 := by have := Cl.rem_len' a hm0; omega
  have hfl : f.len ≤ 900000000 := by omega
  clear hbd hN5 hrf5 hrb hb5 hd5 k0 k1 hla hlm hfz hfpos hbw Cb
  go_loopg [11, 14] (b + 1) (fun gk v i wr => ∃ (e : Nat) (j : Int) (A' : Option Addr) (c' : Nat), e ≤ b ∧ b - e < gk ∧ i = .int .i64 j ∧ j = (b : Int) - 1 - (e : Int) ∧ v = .slice A' (powR a (topN (limbs ls) b e) f).len c' ∧ Hid (NewInts 3 w wr A' c' (powR a (topN (limbs ls) b e) f).len (fromP (powR a (topN (limbs ls) b e) f))) ∧ Hid (Ints wr A2 f.len (fromP f)) ∧ Hid (Ints wr A5 (Poly.rem a f).len (fromP (Poly.rem a f))) ∧ Duo wr w.heap.size (.bool neg) (.slice B k d))
  case atStart => exact ⟨0, _, A3, c3, by omega, by omega, rfl, by omega, by rw [h0N.out], by rw [h0N.out]; exact HN, Hrf, Hrb, Hd5.out⟩
  case round =>
    obtain ⟨e, j, A', c', he, hgk, rfl, hj, rfl, hN, hF, hB, hD⟩ := hrel
    clear HN Hrf Hrb Hd5 h0N
    have hpl := Cl.rem_len' (a ^ (topN (limbs ls) b e)) hm0
    have hpl2 : (powR a (topN (limbs ls) b e) f).len ≤ 900000000 := by show (Poly.rem _ _).len ≤ _; omega
    clear hpl
    by_cases hlt : e < b
    · obtain ⟨t, ht⟩ : ∃ t, t = b - 1 - e := ⟨_, rfl⟩
      obtain rfl : j = (t : Int) := by omega
      have ht0 : (0 : Int) ≤ (t : Int) := by omega
      have htk : t / 64 < k := by omega
      have hsq : Hid (Poly.rem (powR a (topN (limbs ls) b e) f * powR a (topN (limbs ls) b e) f) f = powR a (2 * topN (limbs ls) b e) f) := powR_sq a _ hm0
      have hsN : Hid (topN (limbs ls) b (e + 1) = 2 * topN (limbs ls) b e + (nth ls (t / 64)).toNat / 2 ^ (t % 64) % 2) := by
        show _ = _
        rw [topN_succ hlt, show b - (e + 1) = t by omega, hbit.out t]
      have hmu : Hid (Poly.rem (powR a (2 * topN (limbs ls) b e) f * Poly.rem a f) f = powR a (2 * topN (limbs ls) b e + 1) f) := powR_mul a _ hm0 hAl.out
      have hpq := Cl.rem_len' (a ^ (2 * topN (limbs ls) b e)) hm0
      have hpq2 : (powR a (2 * topN (limbs ls) b e) f).len ≤ 900000000 := by show (Poly.rem _ _).len ≤ _; omega
      clear hpq
      have Hj := Lib.hid hj
      have Ht := Lib.hid ht
      have htb : (t : Int) ≤ 100000000000 := by omega
      clear hj ht
      generalize hP0 : powR a (topN (limbs ls) b e) f = P0 at *
      generalize hP1 : powR a (2 * topN (limbs ls) b e) f = P1 at *
      have HP1 := Lib.hid hP1
      clear hP0 hP1
      go_wp2_with fail
      refine (pprodP A' A' c' c' P0 P0 _ hN.out.rd hN.out.rd (by omega)).mono ?_
      rintro ee w6 ⟨A6, c6, rfl, hn6⟩
      have hb6 := hn6.bel
      have hr6 := hn6.rd
      have hl6 := Cl.prod_len' P0 P0
      clear hn6
      go_wp2_with fail
      refine (pdivided_any A6 A2 _ _ c6 c2 (P0 * P0) f _ hr6 (hF.out.bel hb6) (by omega) (by omega) hm0).mono ?_
      rintro ee w7 ⟨Q7, cq7, A7, c7, rfl, -, hn7⟩
      rw [hsq.out] at hn7 ⊢
      have hb7 := below_tr hb6 hn7.bel
      have hN7 := Lib.hid (newInts_sooner (newInts_sooner hn7 hb6) hN.out.bel)
      have hD7 := hD.bel hb7
      have k0 := hD7.cell0
      have k1 := hD7.cell1
      have hF7 := Lib.hid (hF.out.bel hb7)
      have hB7 := Lib.hid (hB.out.bel hb7)
      have hlm7 := HL.out.bel hN7.out.bel
      obtain ⟨bb, o, rfl, hbb, hcl⟩ := hlm7.at_ (by omega)
      have hcy := hcl (t / 64) htk
      have hok := hlm7.ok (t / 64)
      have HD7 := Lib.hid hD7
      have hbo := bit_one hok.1 hok.2 (t % 64)
      rcases Nat.mod_two_eq_zero_or_one ((nth ls (t / 64)).toNat / 2 ^ (t % 64)) with hpar | hpar
      · have hbq : (bits .and .u64 (nth ls (t / 64) / 2 ^ (t % 64)) 1 == 1) = false := by rw [hbo, hpar]; rfl
        have hsN2 : Hid (P1 = powR a (topN (limbs ls) b (e + 1)) f) := by
          show _ = _
          rw [hsN.out, hpar, ← HP1.out]; rfl
        clear hbo hpar hok hcl hlm7 hn7 hb6 hb7 hr6 hl6 hD7 hN hF hB hD
        go_wp2_with fail
        go_roundg (gk - 1)
        case measure => omega
        case rel => exact ⟨e + 1, _, A7, c7, by omega, by omega, rfl, by have := Hj.out; omega, by rw [← hsN2.out], by rw [← hsN2.out]; exact hN7, hF7, hB7, HD7.out⟩
      · have hbq : (bits .and .u64 (nth ls (t / 64) / 2 ^ (t % 64)) 1 == 1) = true := by rw [hbo, hpar]; rfl
        have hsN2 : Hid (Poly.rem (P1 * Poly.rem a f) f = powR a (topN (limbs ls) b (e + 1)) f) := by
          show _ = _
          rw [hsN.out, hpar]; exact hmu.out
        clear hbo hpar hok hcl hlm7 hn7 hb6 hb7 hr6 hl6 hD7 hN hF hB hD
        go_wp2_with fail
        refine (pprodP A7 A5 c7 c5 P1 (Poly.rem a f) _ hN7.out.rd hB7.out (by omega)).mono ?_
        rintro ee w8 ⟨A8, c8, rfl, hn8⟩
        have hb8 := hn8.bel
        have hr8 := hn8.rd
        have hl8 := Cl.prod_len' P1 (Poly.rem a f)
        clear hn8
        go_wp2_with fail
        refine (pdivided_any A8 A2 _ _ c8 c2 (P1 * Poly.rem a f) f _ hr8 (hF7.out.bel hb8) (by omega) (by omega) hm0).mono ?_
        rintro ee w9 ⟨Q9, cq9, A9, c9, rfl, -, hn9⟩
        rw [hsN2.out] at hn9 ⊢
        have hb9 := below_tr hb8 hn9.bel
        have hN9 := Lib.hid (newInts_sooner (newInts_sooner hn9 hb8) hN7.out.bel)
        have hD9 := Lib.hid (HD7.out.bel hb9)
        have hF9 := Lib.hid (hF7.out.bel hb9)
        have hB9 := Lib.hid (hB7.out.bel hb9)
        clear hn9 hb8 hb9 hr8 hl8
        go_wp2_with fail
        go_roundg (gk - 1)
        case measure => omega
        case rel => exact ⟨e + 1, _, A9, c9, by omega, by omega, rfl, by have := Hj.out; omega, rfl, hN9, hF9, hB9, hD9.out⟩
    · obtain rfl : e = b := by omega
      have Hfin : Hid (GivesPE w (powR a (limbs ls) f) 0 (.returned (.tuple #[.slice A' (powR a (topN (limbs ls) e e) f).len c', .int .i64 0])) wr) := by
        have := hN.out
        rw [topN_full] at this ⊢
        exact givesPE_of this
      have hjn : j < 0 := by omega
      clear hj
      go_wp2_with fail
      go_ret2
      exact Hfin.out

theorem ppow_no (A B M : Option Addr) (n c k d m cm : Nat) (neg : Bool) (p : Int) (w : World) (h3 : -9223372036854775808 ≤ p) (h4 : p ≤ 9223372036854775807) (hp : isPrime p = false) :
    Calls Tryz.prog 41 #[.slice A n c, .agg #[.bool neg, .slice B k d], .slice M m cm, .int .i64 p] w fun e w' => e = .returned (.tuple #[.slice none 0 0, .int .i64 1]) ∧ Below w.heap.size w w' := by
  have hb : Below w.heap.size w (w.alloc (.cells #[.bool neg, .slice B k d] 67)) := (Below.refl _ w).alloc (Nat.le_refl _) _
  go_enter Tryz.func41, Tryz.ntmps41
  go_wp2_with fail
  refine (chk_no _ _ h3 h4 hp).mono ?_
  rintro e w' ⟨rfl, rfl⟩
  go_wp2_with fail
  go_ret2
  exact ⟨rfl, hb⟩

set_option maxRecDepth 100000 in
theorem ppow_neg (A B M : Option Addr) (n c k d m cm : Nat) (neg : Bool) (ls : List Int) (p : Int) (w : World) (hp : Pr p) (hl : Limbs w B k ls) (hk : k ≤ 900000000) (hkd : k ≤ d) (hd : d ≤ 9223372036854775807) (hs : signN neg (lmN ls k) < 0) :
    Calls Tryz.prog 41 #[.slice A n c, .agg #[.bool neg, .slice B k d], .slice M m cm, .int .i64 p] w fun e w' => e = .returned (.tuple #[.slice none 0 0, .int .i64 1]) ∧ Below w.heap.size w w' := by
  have hp1 := hp.two
  have hp2 := hp.max
  have Cs := Lib.hid (fun W (h : Below w.heap.size w W) => zsign_any neg B k d ls W (hl.bel h) hkd hd (by omega))
  have hd0 := Duo.new w (.bool neg) (.slice B k d)
  have k0 := hd0.cell0
  have k1 := hd0.cell1
  clear hl hd0
  go_enter Tryz.func41, Tryz.ntmps41
  go_wp2_with fail
  refine (chk_yes _ _ (by omega) (by omega) ((isPrime_iff p).2 hp)).mono ?_
  rintro e w' ⟨rfl, rfl⟩
  go_wp2_with fail
  refine (Cs.out _ (by exact (Below.refl _ _).alloc (Nat.le_refl _) _)).mono ?_
  rintro e w1 ⟨rfl, hb1⟩
  generalize signN neg (lmN ls k) = s at *
  have hbw : Below w.heap.size w w1 := ((Below.refl _ w).alloc (Nat.le_refl _) _).trans (hb1.mono (by simp))
  go_wp2_with fail
  go_ret2
  exact ⟨rfl, hbw⟩

set_option maxRecDepth 100000 in
theorem ppow_zero (A B M : Option Addr) (n c k d m cm : Nat) (neg : Bool) (ls ms : List Int) (p : Int) (w : World) (hp : Pr p) (hl : Limbs w B k ls) (hm : Ints w M m ms) (hmn : m ≤ 900000000) (hk : k ≤ 900000000) (hkd : k ≤ d) (hd : d ≤ 9223372036854775807)
    (hs : ¬ signN neg (lmN ls k) < 0) (hm0 : toP ⟨p, hp⟩ ms = 0) :
    Calls Tryz.prog 41 #[.slice A n c, .agg #[.bool neg, .slice B k d], .slice M m cm, .int .i64 p] w fun e w' => e = .returned (.tuple #[.slice none 0 0, .int .i64 3]) ∧ Below w.heap.size w w' := by
  have hp1 := hp.two
  have hp2 := hp.max
  have Cs := Lib.hid (fun W (h : Below w.heap.size w W) => zsign_any neg B k d ls W (hl.bel h) hkd hd (by omega))
  have Cm := Lib.hid (fun W (h : Below w.heap.size w W) => pplain_any M m cm ms p W hp (hm.bel h) (by omega))
  rw [hm0] at Cm
  have hd0 := Duo.new w (.bool neg) (.slice B k d)
  have k0 := hd0.cell0
  have k1 := hd0.cell1
  clear hl hd0 hm hm0
  go_enter Tryz.func41, Tryz.ntmps41
  go_wp2_with fail
  refine (chk_yes _ _ (by omega) (by omega) ((isPrime_iff p).2 hp)).mono ?_
  rintro e w' ⟨rfl, rfl⟩
  go_wp2_with fail
  refine (Cs.out _ (by exact (Below.refl _ _).alloc (Nat.le_refl _) _)).mono ?_
  rintro e w1 ⟨rfl, hb1⟩
  generalize signN neg (lmN ls k) = s at *
  have hbw : Below w.heap.size w w1 := ((Below.refl _ w).alloc (Nat.le_refl _) _).trans (hb1.mono (by simp))
  go_wp2_with fail
  refine (Cm.out _ (by exact hbw)).mono ?_
  rintro e w2 ⟨A2, c2, rfl, hn2⟩
  have hb2 := hbw.trans (hn2.bel.mono hbw.size)
  clear hn2
  rw [Poly.len_zero]
  go_wp2_with fail
  go_ret2
  exact ⟨rfl, hb2⟩
end Go.Proofs.YtpikakapflebkaaGreat
