/- Memory of rows whose headers lie in a block of the call's own. -/
import Derived.Test.YthpkpnpkkflfpaaFlinG
import Derived.Test.YthpkpnpkkflfpaaApp
import Derived.Test.YthpkpnpkkflfpaaSpanRef
namespace Go.Proofs.Ythpkpnpkkflfpaa
open Go.RowKit Cl

def shd (A : Nat → Option Addr) (C : Nat → Nat) (L n : Nat) : List Value := (List.range n).map fun i => .slice (A i) L (C i)
theorem shd_length (A : Nat → Option Addr) (C : Nat → Nat) (L n : Nat) : (shd A C L n).length = n := by simp [shd]
theorem shd_get {A : Nat → Option Addr} {C : Nat → Nat} {L n i : Nat} (h : i < n) : (shd A C L n)[i]? = some (.slice (A i) L (C i)) := by simp [shd, h]
theorem shd_congr {A A' : Nat → Option Addr} {C C' : Nat → Nat} {L n : Nat} (h : ∀ i, i < n → A i = A' i ∧ C i = C' i) : shd A C L n = shd A' C' L n := by
  unfold shd
  exact List.map_congr_left fun i hi => by have := h i (List.mem_range.1 hi); rw [this.1, this.2]
theorem shd_oneCell (A : Nat → Option Addr) (C : Nat → Nat) (L n : Nat) : ∀ u ∈ shd A C L n, u.oneCell' = true := by
  intro u hu
  simp only [shd, List.mem_map] at hu
  obtain ⟨x, _, rfl⟩ := hu
  rfl
theorem shd_set {A : Nat → Option Addr} {C : Nat → Nat} {L n : Nat} (j : Nat) (a : Option Addr) (c : Nat) : (shd A C L n).set j (.slice a L c) = shd (fun i => if i = j then a else A i) (fun i => if i = j then c else C i) L n := by
  apply List.ext_getElem
  · simp [shd]
  · intro i h1 h2
    simp only [List.getElem_set, shd, List.getElem_map, List.getElem_range]
    by_cases e : j = i
    · subst e; simp
    · rw [if_neg e, if_neg (fun h => e h.symm), if_neg (fun h => e h.symm)]

theorem shd_take {A : Nat → Option Addr} {C : Nat → Nat} {L n q : Nat} (h : q ≤ n) : (shd A C L n).take q = shd A C L q := by
  apply List.ext_getElem?
  intro i
  rw [List.getElem?_take]
  by_cases hi : i < q
  · rw [if_pos hi, shd_get (by omega), shd_get hi]
  · rw [if_neg hi]; symm; simp [shd_length]; omega
/-- A header put in at place q. -/
theorem shd_ins {A : Nat → Option Addr} {C : Nat → Nat} {L n q : Nat} (h : q ≤ n) (a : Option Addr) (c : Nat) :
    [] ++ shd A C L q ++ [.slice a L c] ++ (shd A C L n).drop q = shd (fun i => if i < q then A i else if i = q then a else A (i - 1)) (fun i => if i < q then C i else if i = q then c else C (i - 1)) L (n + 1) := by
  apply List.ext_getElem?
  intro i
  rw [List.nil_append]
  by_cases h1 : i < q
  · rw [List.append_assoc, List.getElem?_append_left (by rw [shd_length]; exact h1), shd_get h1, shd_get (by omega), if_pos h1, if_pos h1]
  · by_cases h2 : i = q
    · subst h2
      rw [List.append_assoc, List.getElem?_append_right (by rw [shd_length]; omega), shd_length, Nat.sub_self, shd_get (by omega), if_neg h1, if_neg h1, if_pos rfl, if_pos rfl]; rfl
    · rw [List.getElem?_append_right (by simp [shd_length]; omega), List.getElem?_drop]
      simp only [List.length_append, shd_length, List.length_singleton]
      rw [show q + (i - (q + 1)) = i - 1 by omega]
      by_cases h3 : i < n + 1
      · rw [shd_get (by omega), shd_get h3, if_neg h1, if_neg h1, if_neg h2, if_neg h2]
      · rw [List.getElem?_eq_none (by rw [shd_length]; omega), List.getElem?_eq_none (by rw [shd_length]; omega)]
/-- Rows under headers in a block of the call's own. -/
structure Shelf (w : World) (B : Nat) (Av : Option Addr) (cv : Nat) (A : Nat → Option Addr) (C : Nat → Nat) (n L : Nat) (O : Nat → List Int) : Prop where
  own : w.ownsRow B 39 1 (.slice Av n cv) n (shd A C L n)
  rd : ∀ i, i < n → Ints w (A i) L (O i)
section
variable {w w' : World} {B : Nat} {Av : Option Addr} {cv : Nat} {A : Nat → Option Addr} {C : Nat → Nat} {n L : Nat} {O : Nat → List Int}
theorem Shelf.bel (h : Shelf w B Av cv A C n L O) (hb : Below w.heap.size w w') : Shelf w' B Av cv A C n L O := ⟨own_bel h.own hb, fun i hi => (h.rd i hi).bel hb⟩
theorem Shelf.form (h : Shelf w B Av cv A C n L O) (hn : 0 < n) : ∃ g, Av = some ⟨g, 0, none⟩ ∧ B ≤ g ∧ g < w.heap.size ∧ n ≤ cv := by
  rcases h.own.2 with ⟨hv, h0⟩ | ⟨g, cap, cur, hv, hg, hh, hc, _⟩
  · omega
  · simp only [Value.slice.injEq] at hv
    obtain ⟨rfl, _, rfl⟩ := hv
    exact ⟨g, rfl, hg, (Array.getElem?_eq_some_iff.1 hh).1, hc⟩
theorem Shelf.cell {g : Nat} (h : Shelf w B (some ⟨g, 0, none⟩) cv A C n L O) {i : Nat} (hi : i < n) : w.cell? ⟨g, i, none⟩ = some (.slice (A i) L (C i)) := by
  rw [h.own.cellAt i (by omega), shd_get hi]
theorem Shelf.mat (h : Shelf w B Av cv A C n L O) (hn : n ≤ 9223372036854775807) (hl : ∀ i, i < n → (O i).length = L) : Mat w Av n (rowsTab n O) := by
  refine ⟨rowsTab_length _ _, hn, fun h0 => ?_⟩
  obtain ⟨g, rfl, _, hg, _⟩ := h.form h0
  refine ⟨g, 0, rfl, hg, fun i hi => ?_⟩
  rw [rAt_rowsTab, if_pos hi, Nat.zero_add, hl i hi]
  exact ⟨_, _, h.cell hi, h.rd i hi⟩
theorem Shelf.set {g : Nat} (h : Shelf w B (some ⟨g, 0, none⟩) cv A C n L O) {j : Nat} (hj : j < n) {a : Option Addr} {c : Nat} {r : List Int} (hr : Ints w a L r) :
    Shelf (w.setCell ⟨g, j, none⟩ (.slice a L c)) B (some ⟨g, 0, none⟩) cv (fun i => if i = j then a else A i) (fun i => if i = j then c else C i) n L (fun i => if i = j then r else O i) := by
  have hc := h.cell hj
  refine ⟨?_, fun i hi => ?_⟩
  · have := (h.own.stored j (.slice a L c)).1
    rwa [shd_set] at this
  · by_cases e : i = j
    · simp only [if_pos e]; exact hr.far hc (fun _ _ => by simp)
    · simp only [if_neg e]; exact (h.rd i hi).far hc (fun _ _ => by simp)
theorem Shelf.drew (h : Shelf w B Av cv A C n L O) : Shelf w.drew B Av cv A C n L O := ⟨own_drew h.own, fun i hi => (h.rd i hi).drew⟩
theorem Shelf.congr {O' : Nat → List Int} (h : Shelf w B Av cv A C n L O) (ho : ∀ i, i < n → O i = O' i) : Shelf w B Av cv A C n L O' := ⟨h.own, fun i hi => ho i hi ▸ h.rd i hi⟩
end

end Go.Proofs.Ythpkpnpkkflfpaa
