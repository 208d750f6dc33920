/- Contracts: derivatives, values, degrees, contents where the arguments may not be (the program's). -/
import Derived.Test.YtjmbejodcloapaaPMvs
import Derived.Test.YtjmbejodcloapaaPTj
import Derived.Test.YtjmbejodcloapaaPPlains
import Derived.Test.YtjmbejodcloapaaPLaws
import Derived.Test.YtjmbejodcloapaaPDvZin
import Derived.Test.YtjmbejodcloapaaPMvar
set_option linter.unusedVariables false
set_option linter.unusedSimpArgs false
namespace Go.Proofs.Ytjmbejodcloapaa
open Go.RowKit Cl
attribute [local go_sem ↓] Go.wp_at_zero Go.wp_at_succ
theorem chk_cases (n : Int) (L : List TV) : chkN n L = 0 ∧ OkL n L ∨ chkN n L = 1 := by
  by_cases h : OkL n L
  · exact .inl ⟨chkN_ok h, h⟩
  · exact .inr (chkN_no h)
end Go.Proofs.Ytjmbejodcloapaa
