/- What a reading of an argument tells of memory: a slice of numbers, a slice of such slices. -/
import Derived.Test.YtjmbejodcloapaaBase
import Derived.ProofKit
import Derived.SizedLaws
import Derived.Deep.Matrix
namespace Cl
open Go Go.ChangeShapes Go.WideShapes Go.ChangeAt Go.RowKit Go.Deep

theorem lt_of_cell {w : World} {p : Addr} {v : Value} (h : w.cell? p = some v) : p.block < w.heap.size := by
  unfold World.cell? at h
  by_cases hb : p.block < w.heap.size
  · exact hb
  · rw [Array.getElem?_eq_none (by omega)] at h
    cases h
theorem i64_of_wf {n : Int} (h : (Lit.int .i64 n).wf = true) : I64 n := bounds_i64 h
theorem reach_eq : reachBytes = 140737488351232 := by decide

section
variable {H : Type} {enc : TypeId × Value → H} {P : Program} {W : World} {base : Nat}
theorem open_readsC {t e : TypeId} {v : Value} {d : DataW H} {p : List MemPlace} (ht : P.underlying t = some (.slice e)) (he : P.underlying e = some (.int .i64)) (hc : P.cellsOf e = 1) (hb : P.bytesOf e = 8)
    (hv : Value.okWide P W .any base t v) (h : DataW.Trod enc P W 0 (fun _ => true) true t v d p) :
    ∃ A n c xs, v = .slice A n c ∧ Ints W A n xs ∧ (A = none → c = 0) ∧ n ≤ c ∧ c ≤ 9223372036854775807 ∧ ∀ {ts : List TypeId} {ds : List (DataW H)} (j : Nat), (DataW.weightsEach P ts ds).all (· ≤ reachBytes) = true → ts[j]? = some t → ds[j]? = some d → n * 8 ≤ 140737488351232 := by
  obtain ⟨a0, len, cap, rfl⟩ := okWide_slice ht hv
  obtain ⟨fuel, hf⟩ := h
  rcases open_ints ht he hc hf with ⟨hcs, hx⟩ | ⟨a, len', cap', zs, hcs, _, hl, hm, hz, hx, hcell, hwf⟩
  · simp [Value.cells] at hcs
    obtain ⟨rfl, rfl, rfl⟩ := hcs
    exact ⟨none, 0, 0, [], rfl, ⟨rfl, fun h => absurd h (by omega), fun i => by rw [nth_ge (by simp)]; exact I64.zero⟩, fun _ => rfl, by omega, by omega, fun j _ _ _ => by omega⟩
  · simp [Value.cells] at hcs
    obtain ⟨rfl, rfl, rfl⟩ := hcs
    simp only [Prod.mk.injEq] at hx
    obtain ⟨rfl, rfl⟩ := hx
    simp only [if_true] at hz
    refine ⟨some a, len, cap, zs.take len, rfl, ⟨by rw [List.length_take]; omega, fun hn => ?_, fun i => ?_⟩, fun h => (by cases h), hl, by unfold maxLen at hm; omega, fun j h1 h2 h3 => ?_⟩
    · obtain ⟨b, off, rfl, hcc⟩ := ints_at hcell (by omega)
      refine ⟨b, off, rfl, lt_of_cell (hcc 0 (by omega)), fun i hi => ?_⟩
      rw [hcc i (by omega)]
      congr 2
      unfold nth
      simp [List.getD, hi]
    · by_cases hi : i < (zs.take len).length
      · exact i64_of_wf (hwf _ (List.mem_of_mem_take (nth_mem hi)))
      · rw [nth_ge (by omega)]; exact I64.zero
    · have := sized_slice h1 h2 h3 ht
      rw [hb, reach_eq] at this
      simp only [lits, List.length_map, List.length_take, List.length_drop] at this
      omega

theorem open_reads {t e : TypeId} {v : Value} {d : DataW H} {p : List MemPlace} (ht : P.underlying t = some (.slice e)) (he : P.underlying e = some (.int .i64)) (hc : P.cellsOf e = 1) (hb : P.bytesOf e = 8)
    (hv : Value.okWide P W .any base t v) (h : DataW.Trod enc P W 0 (fun _ => true) true t v d p) :
    ∃ A n c xs, v = .slice A n c ∧ Ints W A n xs ∧ ∀ {ts : List TypeId} {ds : List (DataW H)} (j : Nat), (DataW.weightsEach P ts ds).all (· ≤ reachBytes) = true → ts[j]? = some t → ds[j]? = some d → n * 8 ≤ 140737488351232 := by
  obtain ⟨A, n, c, xs, h1, h2, _, _, _, h3⟩ := open_readsC (enc := enc) ht he hc hb hv h
  exact ⟨A, n, c, xs, h1, h2, h3⟩
theorem open_mat {t e q : TypeId} {v : Value} {d : DataW H} {p : List MemPlace} (ht : P.underlying t = some (.slice e)) (he : P.underlying e = some (.slice q)) (hq : P.underlying q = some (.int .i64)) (ce : P.cellsOf e = 1) (cq : P.cellsOf q = 1)
    (hv : Value.okWide P W .any base t v) (h : DataW.Trod enc P W 0 (fun _ => true) true t v d p) :
    ∃ A n c xs, v = .slice A n c ∧ Mat W A n xs := by
  obtain ⟨a0, len, cap, rfl⟩ := okWide_slice ht hv
  obtain ⟨fuel, hf⟩ := h
  rcases open_int_rows ht he hq ce cq hf with ⟨hcs, hx⟩ | ⟨a, len', cap', A, L, C, Z, hcs, _, hl, hm, hx, hr⟩
  · simp [Value.cells] at hcs
    obtain ⟨rfl, rfl, rfl⟩ := hcs
    exact ⟨none, 0, 0, [], rfl, rfl, by omega, fun h => absurd h (by omega)⟩
  · simp [Value.cells] at hcs
    obtain ⟨rfl, rfl, rfl⟩ := hcs
    have hl2 : ∀ r, r < len → ((Z r).take (L r)).length = L r := fun r hr' => by
      obtain ⟨_, h2, _, h4, _⟩ := hr r (by omega)
      rw [List.length_take]; omega
    have hlen : ((List.range len).map fun r => (Z r).take (L r)).length = len := by simp
    have hat : ∀ r, r < len → rAt ((List.range len).map fun r => (Z r).take (L r)) r = (Z r).take (L r) := fun r hr' => by
      rw [rAt_lt (by rw [hlen]; exact hr')]; simp
    refine ⟨some a, len, cap, (List.range len).map fun r => (Z r).take (L r), rfl, hlen, by unfold maxLen at hm; omega, fun hn => ?_⟩
    have e0 : ∃ b off, a = ⟨b, off, none⟩ ∧ ∀ i, i < cap → (a.add i) = ⟨b, off + i, none⟩ := by
      obtain ⟨b, off, spot⟩ := a
      have hspot : spot = none := by simpa [Addr.add] using World.cell?_spot (hr 0 (by omega)).1
      subst hspot
      exact ⟨b, off, rfl, fun i _ => Go.WideShapes.add_plain _ _ _⟩
    obtain ⟨b, off, rfl, hadd⟩ := e0
    refine ⟨b, off, rfl, ?_, fun i hi => ?_⟩
    · have h0 := (hr 0 (by omega)).1
      rw [hadd 0 (by omega)] at h0
      exact lt_of_cell h0
    · obtain ⟨h1, h2, h3, h4, h5, h6, h7⟩ := hr i (by omega)
      rw [hadd i (by omega)] at h1
      rw [hat i hi, hl2 i hi]
      refine ⟨A i, C i, h1, hl2 i hi, fun hpos => ?_, fun j => ?_⟩
      · cases hA : A i with
        | none => have := h6 hA; omega
        | some a' =>
          obtain ⟨_, h9⟩ := h7 a' hA
          obtain ⟨b', off', rfl, hcc⟩ := ints_at (a := a') (zs := Z i) (k := .i64) (fun j hj => h9 j (by omega)) (by omega)
          refine ⟨b', off', rfl, lt_of_cell (hcc 0 (by omega)), fun j hj => ?_⟩
          rw [hcc j (by omega)]
          congr 2
          unfold nth
          simp [List.getD, hj]
      · by_cases hj : j < ((Z i).take (L i)).length
        · exact i64_of_wf (h5 _ (List.mem_of_mem_take (nth_mem hj)))
        · rw [nth_ge (by omega)]; exact I64.zero
end
end Cl
