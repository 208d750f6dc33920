/- Contracts: is it a matrix? The program's and the document's. -/
import Derived.Test.YteddelfkjpljpaaFlinA
import Derived.Test.YteddelfkjpljpaaPolyB
import Derived.BigQuiet
import Derived.Deep.QuietTactic
namespace Go.Proofs.Yteddelfkjpljpaa
open Go.RowKit Cl

end Go.Proofs.Yteddelfkjpljpaa
