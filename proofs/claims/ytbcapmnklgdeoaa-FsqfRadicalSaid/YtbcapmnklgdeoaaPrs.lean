/- Words on memory: polynomials, each beside a number, two cells each; the levels of a polynomial as a list. No program in sight. -/
import Derived.Test.YtbcapmnklgdeoaaBase
import Derived.Test.YtbcapmnklgdeoaaPolyB
import Derived.Test.YtbcapmnklgdeoaaPolyC
namespace Cl
open Go Go.RowKit

/-- A slice's header and a number: where a polynomial lies, and how often it is one. -/
abbrev Ent := (Option Addr × Nat) × Nat
/-- An entry's cells; len tells how long its polynomial is. -/
def pcell (len : Nat → Nat) (x : Ent) : List Value := [.slice x.1.1 (len x.2) x.1.2, .int .i64 (x.2 : Int)]
def pcells (len : Nat → Nat) (L : List Ent) : List Value := L.flatMap (pcell len)
theorem pcells_length (len : Nat → Nat) (L : List Ent) : (pcells len L).length = L.length * 2 := by
  induction L with
  | nil => rfl
  | cons x L ih => unfold pcells at *; rw [List.flatMap_cons, List.length_append, ih]; show 2 + _ = _; rw [List.length_cons]; omega
theorem pcells_snoc (len : Nat → Nat) (L : List Ent) (x : Ent) : pcells len (L ++ [x]) = pcells len L ++ pcell len x := by simp [pcells, List.flatMap_append]
theorem pcells_get0 {len : Nat → Nat} : ∀ {L : List Ent} {i : Nat} (h : i < L.length), (pcells len L)[2 * i]? = some (.slice (L[i]).1.1 (len (L[i]).2) (L[i]).1.2)
  | [], _, h => by simp at h
  | x :: L, 0, _ => rfl
  | x :: L, i + 1, h => by
    have := pcells_get0 (len := len) (L := L) (i := i) (by simpa using h)
    show (pcell len x ++ pcells len L)[2 * (i + 1)]? = _
    rw [List.getElem?_append_right (by show 2 ≤ _; omega)]
    show (pcells len L)[2 * (i + 1) - 2]? = _
    rw [show 2 * (i + 1) - 2 = 2 * i by omega, this]; rfl
theorem pcells_get1 {len : Nat → Nat} : ∀ {L : List Ent} {i : Nat} (h : i < L.length), (pcells len L)[2 * i + 1]? = some (.int .i64 ((L[i]).2 : Int))
  | [], _, h => by simp at h
  | x :: L, 0, _ => rfl
  | x :: L, i + 1, h => by
    have := pcells_get1 (len := len) (L := L) (i := i) (by simpa using h)
    show (pcell len x ++ pcells len L)[2 * (i + 1) + 1]? = _
    rw [List.getElem?_append_right (by show 2 ≤ _; omega)]
    show (pcells len L)[2 * (i + 1) + 1 - 2]? = _
    rw [show 2 * (i + 1) + 1 - 2 = 2 * i + 1 by omega, this]; rfl
theorem pcells_oneCell (len : Nat → Nat) (L : List Ent) : ∀ u ∈ pcells len L, u.oneCell' = true := by
  intro u hu
  simp only [pcells, List.mem_flatMap] at hu
  obtain ⟨x, _, hx⟩ := hu
  simp only [pcell, List.mem_cons, List.not_mem_nil, or_false] at hx
  rcases hx with rfl | rfl <;> rfl

section
variable {q : Prm}
/-- The slice at A, of n elements, tells polynomials, each beside a number. -/
structure Prs (w : World) (A : Option Addr) (n : Nat) (L : List (Poly (Zp q) × Nat)) : Prop where
  len : L.length = n
  at_ : 0 < n → ∃ b o, A = some ⟨b, o, none⟩ ∧ b < w.heap.size ∧ ∀ i (h : i < L.length), ∃ Ai ci, w.cell? ⟨b, o + 2 * i, none⟩ = some (.slice Ai (L[i]).1.len ci) ∧ w.cell? ⟨b, o + (2 * i + 1), none⟩ = some (.int .i64 ((L[i]).2 : Int)) ∧ Ints w Ai (L[i]).1.len (fromP (L[i]).1)
theorem Prs.bel {w w' : World} {A : Option Addr} {n : Nat} {L : List (Poly (Zp q) × Nat)} (h : Prs w A n L) (hb : Below w.heap.size w w') : Prs w' A n L :=
  ⟨h.len, fun hn => by
    obtain ⟨b, o, e, hlt, hc⟩ := h.at_ hn
    refine ⟨b, o, e, Nat.lt_of_lt_of_le hlt hb.size, fun i hi => ?_⟩
    obtain ⟨Ai, ci, h1, h2, h3⟩ := hc i hi
    exact ⟨Ai, ci, (hb.cell (p := ⟨b, o + 2 * i, none⟩) hlt).trans h1, (hb.cell (p := ⟨b, o + (2 * i + 1), none⟩) hlt).trans h2, h3.bel hb⟩⟩
theorem Prs.drewN {w : World} {A : Option Addr} {n : Nat} {L : List (Poly (Zp q) × Nat)} (h : Prs w A n L) (k : Nat) : Prs (w.drewN k) A n L := h.bel (below_drewN (Below.refl _ _) k)
theorem Prs.nil (w : World) (A : Option Addr) : Prs (q := q) w A 0 [] := ⟨rfl, fun h => absurd h (by omega)⟩
end

/-! The levels of a polynomial as a list. -/
/-- Two rising lists of the same numbers are one. -/
theorem rising_ext : ∀ {l m : List Nat}, l.Pairwise (· < ·) → m.Pairwise (· < ·) → (∀ x, x ∈ l ↔ x ∈ m) → l = m
  | [], [], _, _, _ => rfl
  | [], y :: m, _, _, h => absurd ((h y).2 (List.mem_cons_self ..)) (by simp)
  | x :: l, [], _, _, h => absurd ((h x).1 (List.mem_cons_self ..)) (by simp)
  | x :: l, y :: m, hl, hm, h => by
    obtain ⟨hl1, hl2⟩ := List.pairwise_cons.1 hl
    obtain ⟨hm1, hm2⟩ := List.pairwise_cons.1 hm
    have e : x = y := by
      rcases List.mem_cons.1 ((h x).1 (List.mem_cons_self ..)) with e | hx
      · exact e
      · rcases List.mem_cons.1 ((h y).2 (List.mem_cons_self ..)) with e | hy
        · exact e.symm
        · have := hm1 x hx
          have := hl1 y hy
          omega
    subst e
    rw [rising_ext hl2 hm2 fun z => ?_]
    constructor
    · intro hz
      rcases List.mem_cons.1 ((h z).1 (List.mem_cons_of_mem _ hz)) with e | hz'
      · have := hl1 z hz; omega
      · exact hz'
    · intro hz
      rcases List.mem_cons.1 ((h z).2 (List.mem_cons_of_mem _ hz)) with e | hz'
      · have := hm1 z hz; omega
      · exact hz'
namespace Poly
variable {F : Type} [CField F]
open Classical in
/-- How often a polynomial's factors are in it: all numbers, rising. -/
noncomputable def lvls (a : Poly F) : List Nat := (List.range a.len).filter fun k => decide (1 ≤ k ∧ lvl a k ≠ 1)
/-- The parts. -/
noncomputable def partsL (a : Poly F) : List (Poly F × Nat) := (lvls a).map fun k => (lvl a k, k)
theorem lvl_lt {a : Poly F} (ha : a ≠ 0) {k : Nat} (hk : 1 ≤ k) (h : lvl a k ≠ 1) : k < a.len := by
  obtain ⟨f, hf, hv⟩ := (lvl_mon ha k).exists_irr_of_ne h
  rw [val_lvl ha hk hf] at hv
  split at hv
  · next e => rw [← e]; exact val_lt ha hf
  · omega
theorem mem_lvls {a : Poly F} (ha : a ≠ 0) {k : Nat} : k ∈ lvls a ↔ 1 ≤ k ∧ lvl a k ≠ 1 := by
  unfold lvls
  rw [List.mem_filter, List.mem_range]
  constructor
  · intro ⟨_, h⟩; simpa using h
  · intro ⟨h1, h2⟩; exact ⟨lvl_lt ha h1 h2, by simpa using ⟨h1, h2⟩⟩
theorem lvls_rising (a : Poly F) : (lvls a).Pairwise (· < ·) := (List.pairwise_lt_range).filter _
end Poly
end Cl
