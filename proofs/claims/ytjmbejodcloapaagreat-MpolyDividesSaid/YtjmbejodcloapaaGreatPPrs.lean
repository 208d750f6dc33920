/- Contracts: derivatives, values, degrees, contents where the arguments may not be (the program's). -/
import Derived.Test.YtjmbejodcloapaaGreatPMvs
import Derived.Test.YtjmbejodcloapaaGreatPTj
import Derived.Test.YtjmbejodcloapaaGreatPPlains
import Derived.Test.YtjmbejodcloapaaGreatPLaws
import Derived.Test.YtjmbejodcloapaaGreatPDvZin
import Derived.Test.YtjmbejodcloapaaGreatPMvar
set_option linter.unusedVariables false
set_option linter.unusedSimpArgs false
namespace Go.Proofs.YtjmbejodcloapaaGreat
open Go.RowKit Cl
attribute [local go_sem ↓] Go.wp_at_zero Go.wp_at_succ
def GivesNo (w : World) (e : Ending) (w' : World) : Prop := e = .returned (.tuple #[.slice none 0 0, .int .i64 1]) ∧ Below w.heap.size w w'
theorem chk_cases (n : Int) (L : List TV) : chkN n L = 0 ∧ OkL n L ∨ chkN n L = 1 := by
  by_cases h : OkL n L
  · exact .inl ⟨chkN_ok h, h⟩
  · exact .inr (chkN_no h)
end Go.Proofs.YtjmbejodcloapaaGreat
