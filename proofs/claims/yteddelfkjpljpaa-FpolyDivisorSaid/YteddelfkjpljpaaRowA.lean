/- A block whose first cells are numbers, with room behind them: what an append leaves, stored into. -/
import Derived.Test.YteddelfkjpljpaaApp
namespace Cl
open Go Go.RowKit

/-- Block g has cap cells, the first of them just these numbers, none of them frozen. -/
def RowA (w : World) (g : Nat) (t : TypeId) (cap : Nat) (xs : List Int) : Prop :=
  ∃ cur : Array Value, w.heap[g]? = some (.cells cur t (0, 0)) ∧ cur.size = cap ∧ cap ≤ maxLen ∧ xs.length ≤ cap ∧ cur.toList.take xs.length = ints xs
section
variable {w w' : World} {g cap : Nat} {t : TypeId} {xs : List Int}
theorem RowA.lt (h : RowA w g t cap xs) : g < w.heap.size := by obtain ⟨cur, h1, _⟩ := h; exact (Array.getElem?_eq_some_iff.1 h1).1
theorem RowA.le (h : RowA w g t cap xs) : xs.length ≤ cap ∧ cap ≤ maxLen := by obtain ⟨cur, _, _, h3, h4, _⟩ := h; exact ⟨h4, h3⟩
theorem RowA.cell (h : RowA w g t cap xs) {i : Nat} (hi : i < xs.length) : w.cell? ⟨g, i, none⟩ = some (.int .i64 (nth xs i)) := by
  obtain ⟨cur, h1, h2, h3, h4, h5⟩ := h
  rw [cell_of_row w g i cur t (0, 0) h1]
  have := ints_get hi
  rw [← h5, List.getElem?_take, if_pos hi] at this
  simpa using this
theorem RowA.frozen (h : RowA w g t cap xs) (i : Nat) : w.frozen? ⟨g, i, none⟩ = false := by
  obtain ⟨cur, h1, _⟩ := h; simp [World.frozen?, h1]
theorem RowA.drew (h : RowA w g t cap xs) : RowA w.drew g t cap xs := h
theorem RowA.drewN (h : RowA w g t cap xs) (n : Nat) : RowA (w.drewN n) g t cap xs := h
theorem RowA.keep (h : RowA w g t cap xs) (hk : w'.heap[g]? = w.heap[g]?) : RowA w' g t cap xs := by obtain ⟨cur, h1, r⟩ := h; exact ⟨cur, hk.trans h1, r⟩
theorem RowA.alloc (h : RowA w g t cap xs) (o : Obj) : RowA (w.alloc o) g t cap xs := h.keep (Below.heap_alloc w o g h.lt)
theorem RowA.set (h : RowA w g t cap xs) {i : Nat} (_hi : i < xs.length) (v : Int) : RowA (w.setCell ⟨g, i, none⟩ (.int .i64 v)) g t cap (xs.set i v) := by
  obtain ⟨cur, h1, h2, h3, h4, h5⟩ := h
  refine ⟨cur.setIfInBounds i (.int .i64 v), ?_, by simp [h2], h3, by simpa using h4, ?_⟩
  · simp [World.setCell, Array.getElem?_modify, h1]
  · rw [List.length_set, Array.toList_setIfInBounds, List.take_set, h5, Cl.ints_set]
theorem RowA.far (h : RowA w g t cap xs) {p : Addr} (hp : g ≠ p.block) (u : Value) : RowA (w.setCell p u) g t cap xs := h.keep (Below.heap_setCell w p u g hp)
theorem RowA.below {B : Nat} (h : RowA w g t cap xs) (hb : Below B w w') (hg : g < B) : RowA w' g t cap xs := h.keep (hb.block g hg)
theorem RowA.bel (h : RowA w g t cap xs) (hb : Below w.heap.size w w') : RowA w' g t cap xs := h.below hb h.lt
theorem RowA.only {S : Nat → Prop} (h : RowA w g t cap xs) (ho : Only S w w') (hs : ¬ S g) : RowA w' g t cap xs := h.keep (ho.block g h.lt hs)
theorem RowA.own (h : RowA w g t cap xs) {base : Nat} (hb : base ≤ g) : w.ownsRow base t 1 (.slice (some ⟨g, 0, none⟩) xs.length cap) xs.length (ints xs) := by
  obtain ⟨cur, h1, h2, h3, h4, h5⟩ := h
  exact ⟨by simp [ints_length], .inr ⟨g, cap, cur, rfl, hb, h1, h4, h3, by rw [Nat.mul_one]; exact h2, by rw [Nat.mul_one]; exact h5⟩⟩
theorem RowA.of_own {base c n : Nat} {a : Addr} (h : w.ownsRow base t 1 (.slice (some a) n c) n (ints xs)) : ∃ g, a = ⟨g, 0, none⟩ ∧ base ≤ g ∧ RowA w g t c xs := by
  have hl := h.1
  rw [ints_length, Nat.mul_one] at hl
  rcases h.2 with ⟨hv, _⟩ | ⟨g, cap, cur, hv, hg, hh, hnc, hcm, hcs, htake⟩
  · cases hv
  · simp only [Value.slice.injEq, Option.some.injEq] at hv
    obtain ⟨rfl, _, rfl⟩ := hv
    exact ⟨g, rfl, hg, cur, hh, by rw [Nat.mul_one] at hcs; exact hcs, hcm, by omega, by rw [Nat.mul_one, ← hl] at htake; exact htake⟩
theorem RowA.ints (h : RowA w g t cap xs) (hok : ∀ i, I64 (nth xs i)) : Ints w (some ⟨g, 0, none⟩) xs.length xs :=
  ⟨rfl, fun _ => ⟨g, 0, rfl, h.lt, fun i hi => by rw [Nat.zero_add]; exact h.cell hi⟩, hok⟩
theorem Row.toA (h : Row w g t xs) (hm : xs.length ≤ maxLen) : RowA w g t xs.length xs := ⟨_, h, by simp [ints_length], hm, Nat.le_refl _, by rw [List.take_of_length_le (by simp [ints_length])]⟩
/-- An owned slice that is not empty. -/
theorem own_some {base n : Nat} {v : Value} (h : w.ownsRow base t 1 v n (Cl.ints xs)) (hn : 0 < n) : ∃ g cap, v = .slice (some ⟨g, 0, none⟩) n cap ∧ base ≤ g ∧ RowA w g t cap xs := by
  rcases h.2 with ⟨_, h0⟩ | ⟨g, cap, cur, hv, _⟩
  · omega
  · subst hv
    obtain ⟨g', e, h2, h3⟩ := RowA.of_own h
    injection e with e
    subst e
    exact ⟨_, _, rfl, h2, h3⟩
end
/-- An append of a whole list of numbers. -/
theorem Ints.reads {w : World} {A : Option Addr} {n : Nat} {xs : List Int} (h : Ints w A n xs) : Reads w w.heap.size 1 A n (ints xs) :=
  ⟨by rw [ints_length, h.len, Nat.mul_one], fun hn => by
    obtain ⟨b, o, rfl, hb, hc⟩ := h.at_ hn
    refine ⟨_, rfl, hb, fun j u hu => ?_⟩
    have hj : j < xs.length := by
      have := (List.getElem?_eq_some_iff.1 hu).1
      rwa [ints_length] at this
    rw [ints_get hj] at hu
    injection hu with hu
    subst hu
    rw [Go.WideShapes.add_plain]
    exact hc j (by rw [← h.len]; exact hj)⟩
end Cl
