/- The head of the matrices' statements: the document's example holds. -/
import Derived.Test.YthpkpnpkkflfpaaFlinO
import Derived.Test.YthpkpnpkkflfpaaFlinEx
namespace Go.Proofs.Ythpkpnpkkflfpaa
open Go.RowKit Cl
attribute [local go_sem ↓] Go.wp_at_zero Go.wp_at_succ

theorem null_ex : IsNull [[1, 2, 3]] 3 5 [[3, 1, 0], [2, 0, 1]] := ⟨_, ech_ex2, by decide⟩

/-- Slices that are laid row by row read as their rows. -/
theorem Mat.lit {W : World} {b n : Nat} {rows : List (List Int)} (hb : b < W.heap.size) (hn : rows.length = n) (hs : n ≤ 64) (h : ∀ i, i < n → ∃ g, W.cell? ⟨b, i, none⟩ = some (.slice (some ⟨g, 0, none⟩) (rAt rows i).length (rAt rows i).length) ∧ Row W g 3 (rAt rows i)) (hp : ∀ i, i < n → Pl 1000 (rAt rows i)) : Mat W (some ⟨b, 0, none⟩) n rows := by
  refine ⟨hn, by omega, fun _ => ⟨b, 0, rfl, hb, fun i hi => ?_⟩⟩
  obtain ⟨g, h1, h2⟩ := h i hi
  rw [Nat.zero_add]
  exact ⟨_, _, h1, h2.ints (fun j => (hp i hi).i64 (by omega) j)⟩

theorem cell_new (W : World) (cs : Array Value) (t : TypeId) {g i : Nat} (hg : g = W.heap.size) : (W.alloc (.cells cs t)).cell? ⟨g, i, none⟩ = cs[i]? := by
  subst hg; exact cell_of_row _ _ i _ t (0, 0) (heap_alloc_new W _)

theorem mat3 (w : World) (a b c : List Int) (ha : Pl 1000 a) (hb : Pl 1000 b) (hc : Pl 1000 c) :
    Mat ((((w.alloc (.cells (ints a).toArray 3)).alloc (.cells (ints b).toArray 3)).alloc (.cells (ints c).toArray 3)).alloc (.cells #[.slice (some ⟨w.heap.size, 0, none⟩) a.length a.length, .slice (some ⟨w.heap.size + 1, 0, none⟩) b.length b.length, .slice (some ⟨w.heap.size + 1 + 1, 0, none⟩) c.length c.length] 39))
      (some ⟨w.heap.size + 1 + 1 + 1, 0, none⟩) 3 [a, b, c] := by
  have h1 := (((Row.new w 3 a).alloc (.cells (ints b).toArray 3)).alloc (.cells (ints c).toArray 3)).alloc (.cells #[.slice (some ⟨w.heap.size, 0, none⟩) a.length a.length, .slice (some ⟨w.heap.size + 1, 0, none⟩) b.length b.length, .slice (some ⟨w.heap.size + 1 + 1, 0, none⟩) c.length c.length] 39)
  have h2 := ((Row.new (w.alloc (.cells (ints a).toArray 3)) 3 b).alloc (.cells (ints c).toArray 3)).alloc (.cells #[.slice (some ⟨w.heap.size, 0, none⟩) a.length a.length, .slice (some ⟨w.heap.size + 1, 0, none⟩) b.length b.length, .slice (some ⟨w.heap.size + 1 + 1, 0, none⟩) c.length c.length] 39)
  have h3 := (Row.new ((w.alloc (.cells (ints a).toArray 3)).alloc (.cells (ints b).toArray 3)) 3 c).alloc (.cells #[.slice (some ⟨w.heap.size, 0, none⟩) a.length a.length, .slice (some ⟨w.heap.size + 1, 0, none⟩) b.length b.length, .slice (some ⟨w.heap.size + 1 + 1, 0, none⟩) c.length c.length] 39)
  refine Mat.lit (by simp) rfl (by omega) (fun i hi => ?_) (fun i hi => ?_)
  · match i, hi with
    | 0, _ => exact ⟨w.heap.size, by rw [cell_new _ _ _ (by simp)]; rfl, h1⟩
    | 1, _ => exact ⟨w.heap.size + 1, by rw [cell_new _ _ _ (by simp)]; rfl, by rw [World.size_alloc] at h2; exact h2⟩
    | 2, _ => exact ⟨w.heap.size + 1 + 1, by rw [cell_new _ _ _ (by simp)]; rfl, by rw [World.size_alloc, World.size_alloc] at h3; exact h3⟩
  · match i, hi with
    | 0, _ => exact ha
    | 1, _ => exact hb
    | 2, _ => exact hc
theorem mat2 (w : World) (a b : List Int) (ha : Pl 1000 a) (hb : Pl 1000 b) :
    Mat (((w.alloc (.cells (ints a).toArray 3)).alloc (.cells (ints b).toArray 3)).alloc (.cells #[.slice (some ⟨w.heap.size, 0, none⟩) a.length a.length, .slice (some ⟨w.heap.size + 1, 0, none⟩) b.length b.length] 39))
      (some ⟨w.heap.size + 1 + 1, 0, none⟩) 2 [a, b] := by
  have h1 := ((Row.new w 3 a).alloc (.cells (ints b).toArray 3)).alloc (.cells #[.slice (some ⟨w.heap.size, 0, none⟩) a.length a.length, .slice (some ⟨w.heap.size + 1, 0, none⟩) b.length b.length] 39)
  have h2 := (Row.new (w.alloc (.cells (ints a).toArray 3)) 3 b).alloc (.cells #[.slice (some ⟨w.heap.size, 0, none⟩) a.length a.length, .slice (some ⟨w.heap.size + 1, 0, none⟩) b.length b.length] 39)
  refine Mat.lit (by simp) rfl (by omega) (fun i hi => ?_) (fun i hi => ?_)
  · match i, hi with
    | 0, _ => exact ⟨w.heap.size, by rw [cell_new _ _ _ (by simp)]; rfl, h1⟩
    | 1, _ => exact ⟨w.heap.size + 1, by rw [cell_new _ _ _ (by simp)]; rfl, by rw [World.size_alloc] at h2; exact h2⟩
  · match i, hi with
    | 0, _ => exact ha
    | 1, _ => exact hb
theorem mat1 (w : World) (a : List Int) (ha : Pl 1000 a) :
    Mat ((w.alloc (.cells (ints a).toArray 3)).alloc (.cells #[.slice (some ⟨w.heap.size, 0, none⟩) a.length a.length] 39))
      (some ⟨w.heap.size + 1, 0, none⟩) 1 [a] := by
  have h1 := (Row.new w 3 a).alloc (.cells #[.slice (some ⟨w.heap.size, 0, none⟩) a.length a.length] 39)
  refine Mat.lit (by simp) rfl (by omega) (fun i hi => ?_) (fun i hi => ?_)
  · match i, hi with
    | 0, _ => exact ⟨w.heap.size, by rw [cell_new _ _ _ (by simp)]; rfl, h1⟩
  · match i, hi with
    | 0, _ => exact ha

/-- The example's plain rows. -/
theorem ech_call (w : World) : Calls Try.prog 32 #[.slice (some ⟨w.heap.size + 1 + 1 + 1, 0, none⟩) 3 3, .int .i64 5]
    ((((w.alloc (.cells #[.int .i64 1, .int .i64 2] 3)).alloc (.cells #[.int .i64 2, .int .i64 4] 3)).alloc (.cells #[.int .i64 0, .int .i64 3] 3)).alloc (.cells #[.slice (some ⟨w.heap.size, 0, none⟩) 2 2, .slice (some ⟨w.heap.size + 1, 0, none⟩) 2 2, .slice (some ⟨w.heap.size + 1 + 1, 0, none⟩) 2 2] 39))
    fun e w' => ∃ A c, e = .returned (.tuple #[.slice A 2 c, .int .i64 0]) ∧ Mat w' A 2 [[1, 0], [0, 1]] ∧ Below w.heap.size w w' := by
  have hm := mat3 w [1, 2] [2, 4] [0, 3] (Pl.of_all (by omega) (by decide)) (Pl.of_all (by omega) (by decide)) (Pl.of_all (by omega) (by decide))
  refine (ech_yes _ 3 3 _ 5 _ hm (by decide)).mono ?_
  rintro e w' ⟨A, n, c, rows', rfl, h1, h2, h3⟩
  obtain rfl := h2.unique ((isPrime_iff 5).1 (by decide)) ech_ex
  obtain rfl : 2 = n := h1.len
  exact ⟨A, c, rfl, h1, ((((((Below.refl _ _).alloc (Nat.le_refl _) _).alloc (by simp) _).alloc (by simp; omega) _).alloc (by simp; omega) _)).trans (h3.mono (by simp; omega))⟩
theorem null_call (w : World) : Calls Try.prog 35 #[.slice (some ⟨w.heap.size + 1, 0, none⟩) 1 1, .int .i64 3, .int .i64 5]
    ((w.alloc (.cells #[.int .i64 1, .int .i64 2, .int .i64 3] 3)).alloc (.cells #[.slice (some ⟨w.heap.size, 0, none⟩) 3 3] 39))
    fun e w' => ∃ A c, e = .returned (.tuple #[.slice A 2 c, .int .i64 0]) ∧ Mat w' A 2 [[3, 1, 0], [2, 0, 1]] ∧ Below w.heap.size w w' := by
  have hm := mat1 w [1, 2, 3] (Pl.of_all (by omega) (by decide))
  refine (null_yes _ 1 1 3 _ 5 _ hm (by decide)).mono ?_
  rintro e w' ⟨A, n, c, rows', rfl, h1, h2, h3⟩
  obtain rfl := h2.unique ((isPrime_iff 5).1 (by decide)) null_ex
  obtain rfl : 2 = n := h1.len
  exact ⟨A, c, rfl, h1, ((((Below.refl _ _).alloc (Nat.le_refl _) _).alloc (by simp) _)).trans (h3.mono (by simp; omega))⟩
theorem same_call (w0 w : World) (A : Option Addr) (c : Nat) (a b : List Int) (ha : Pl 1000 a) (hb : Pl 1000 b) (hA : Mat w0 A 2 [a, b]) (hB : Below w0.heap.size w0 w) (hl : a.length ≤ 64 ∧ b.length ≤ 64) : Calls Try.prog 34 #[.slice A 2 c, .slice (some ⟨w.heap.size + 1 + 1, 0, none⟩) 2 2]
    (((w.alloc (.cells (ints a).toArray 3)).alloc (.cells (ints b).toArray 3)).alloc (.cells #[.slice (some ⟨w.heap.size, 0, none⟩) a.length a.length, .slice (some ⟨w.heap.size + 1, 0, none⟩) b.length b.length] 39))
    fun e w' => e = .returned (.bool true) ∧ Below w.heap.size w w' := by
  have hm := mat2 w a b ha hb
  have hbb : Below w.heap.size w (((w.alloc (.cells (ints a).toArray 3)).alloc (.cells (ints b).toArray 3)).alloc (.cells #[.slice (some ⟨w.heap.size, 0, none⟩) a.length a.length, .slice (some ⟨w.heap.size + 1, 0, none⟩) b.length b.length] 39)) :=
    (((Below.refl _ _).alloc (Nat.le_refl _) _).alloc (by simp) _).alloc (by simp; omega) _
  refine (rsame_any A _ 2 2 c 2 [a, b] [a, b] _ ((hA.bel hB).bel hbb) hm (fun i => ?_)).mono ?_
  · match i with
    | 0 => show a.length ≤ _; omega
    | 1 => show b.length ≤ _; omega
    | i + 2 => rw [rAt_ge (by simp)]; simp
  · rintro e w' ⟨rfl, k, rfl⟩
    exact ⟨ret_bool (eqR_yes rfl), below_drewN hbb _⟩

theorem awake07 (w : World) : Calls Try.prog 31 #[] w fun e w' => e = .returned (.bool true) ∧ Below w.heap.size w w' := by
  go_enter Try.func31, Try.ntmps31
  go_wp2_with fail
  refine (ech_call w).mono ?_
  rintro e w1 ⟨A1, c1, rfl, hm1, hb1⟩
  go_wp2_with fail
  refine (null_call w1).mono ?_
  rintro e w2 ⟨A2, c2, rfl, hm2, hb2⟩
  go_wp2_with fail
  refine (same_call w1 w2 A1 c1 [1, 0] [0, 1] (Pl.of_all (by omega) (by decide)) (Pl.of_all (by omega) (by decide)) hm1 hb2 (by decide)).mono ?_
  rintro e w3 ⟨rfl, hb3⟩
  go_wp2_with fail
  refine (same_call w2 w3 A2 c2 [3, 1, 0] [2, 0, 1] (Pl.of_all (by omega) (by decide)) (Pl.of_all (by omega) (by decide)) hm2 hb3 (by decide)).mono ?_
  rintro e w4 ⟨rfl, hb4⟩
  go_wp2_with fail
  go_ret
  exact ⟨rfl, ((hb1.trans (hb2.mono hb1.size)).trans (hb3.mono (hb1.trans (hb2.mono hb1.size)).size)).trans (hb4.mono ((hb1.trans (hb2.mono hb1.size)).trans (hb3.mono (hb1.trans (hb2.mono hb1.size)).size)).size)⟩
end Go.Proofs.Ythpkpnpkkflfpaa
