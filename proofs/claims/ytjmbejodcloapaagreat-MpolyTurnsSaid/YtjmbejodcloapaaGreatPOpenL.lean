/- What a reading of an integer argument tells of memory: its sign, its limbs. -/
import Derived.Test.YtjmbejodcloapaaGreatPOpen
import Derived.Test.YtjmbejodcloapaaGreatPLims
import Derived.Lib.SmallJoins
set_option linter.unusedVariables false
set_option linter.unusedSimpArgs false
namespace Cl
open Go Go.ChangeShapes Go.WideShapes Go.ChangeAt Go.RowKit Go.Deep
section
variable {H : Type} {enc : TypeId × Value → H} {P : Program} {W : World} {base : Nat}
theorem open_bint {t te : TypeId} {f0 f1 : Field} {v : Value} {d : DataW H} {p : List MemPlace} (hs : P.underlying t = some (.struct #[f0, f1])) (hone : oneCellFields P #[f0, f1] = true) (hC : P.cellsOf t = 2)
    (hb : P.underlying f0.type = some .bool) (hl : P.underlying f1.type = some (.slice te)) (he : P.underlying te = some (.int .u64)) (hc : P.cellsOf te = 1)
    (hv : Value.okWide P W .any base t v) (h : DataW.Trod enc P W 0 (fun _ => true) true t v d p) :
    ∃ neg B k c ls, v = .agg #[.bool neg, .slice B k c] ∧ Limbs W B k ls ∧ k ≤ c ∧ c ≤ 9223372036854775807 := by
  obtain ⟨v0, v1, y0, y1, n, rfl, _, _, h0, h1⟩ := Go.Joins.open_agg2 hs hone hC hv h
  obtain ⟨neg, e0, _⟩ := DataW.trod_bool hb h0
  simp at e0
  subst e0
  rcases open_ints hl he hc h1 with ⟨hcs, _⟩ | ⟨a, len, cap, zs, hcs, _, hle, hm, hz, _, hcell, hwf⟩
  · simp at hcs
    subst hcs
    exact ⟨neg, none, 0, 0, [], rfl, Limbs.nil _ _, by omega, by omega⟩
  · simp at hcs
    subst hcs
    simp only [if_true] at hz
    refine ⟨neg, some a, len, cap, zs.take len, rfl, ⟨by rw [List.length_take]; omega, fun hn => ?_, fun i => ?_⟩, hle, by unfold maxLen at hm; omega⟩
    · obtain ⟨b, off, rfl, hcc⟩ := ints_at hcell (by omega)
      refine ⟨b, off, rfl, lt_of_cell (hcc 0 (by omega)), fun i hi => ?_⟩
      rw [hcc i (by omega)]
      congr 2
      unfold nth
      simp [List.getD, hi]
    · by_cases hi : i < (zs.take len).length
      · have := bounds_u64 (hwf _ (List.mem_of_mem_take (nth_mem hi)))
        omega
      · rw [nth_ge (by omega)]; omega
end
end Cl
