/- Contracts: is it a matrix? The program's and the document's. -/
import Derived.Test.YtbcapmnklgdeoaaFlinA
import Derived.Test.YtbcapmnklgdeoaaPolyB
import Derived.BigQuiet
import Derived.Deep.QuietTactic
namespace Go.Proofs.Ytbcapmnklgdeoaa
open Go.RowKit Cl

end Go.Proofs.Ytbcapmnklgdeoaa
