/- Contracts: mpoly.Eval, Deriv, Degree of polynomials that may be. -/
import Derived.Test.YtjmbejodcloapaaGreatPFstK
import Derived.Test.YtjmbejodcloapaaGreatPPlains
import Derived.Test.YtjmbejodcloapaaGreatPTj
set_option linter.unusedVariables false
set_option linter.unusedSimpArgs false
namespace Cl
def degL (i : Nat) (L : Mv) : Int := L.foldl (fun d t => max d (nth t.1 i)) (-1)
end Cl
