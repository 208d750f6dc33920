/- What the program and the document tell of one polynomial: the same, each pair of calls by what determines it. -/
import Derived.Test.YtjmbejodcloapaaGreatPRdes
import Derived.Test.YtjmbejodcloapaaGreatPRfs
set_option linter.unusedVariables false
set_option linter.unusedSimpArgs false
namespace Go.Proofs.YtjmbejodcloapaaGreat
open Go.RowKit Cl
attribute [local go_sem ↓] Go.wp_at_zero Go.wp_at_succ
def GivesE (w : World) (err : Int) (P : List TV → Prop) (e : Ending) (w' : World) : Prop :=
  ∃ A c T, e = .returned (.tuple #[.slice A T.length c, .int .i64 err]) ∧ T.length ≤ 4096 ∧ Trs w' A T.length T ∧ P T ∧ Below w.heap.size w w'
theorem givesE_P {w : World} {n : Nat} {M : Mv} {e : Ending} {w' : World} (h : GivesP w n M e w') (hM : M.length ≤ 4096) : GivesE w 0 (fun T => PlainT n T ∧ EqM n (mvT T) M) e w' := by
  obtain ⟨A, c, T, h1, h2, h3, h4, h5, h6, h7⟩ := h
  have := h5.mv.count h6
  rw [mvT_length] at this
  exact ⟨A, c, T, h1, by omega, h4, ⟨h5, h6⟩, h7⟩
theorem givesE_no {w : World} {e : Ending} {w' : World} (h : GivesNo w e w') : GivesE w 1 (fun T => T = []) e w' := by
  obtain ⟨rfl, h⟩ := h
  exact ⟨none, 0, [], rfl, by simp, Trs.nil _ _, rfl, h⟩
end Go.Proofs.YtjmbejodcloapaaGreat
