/- The statements' own head: the document's example holds. -/
import Derived.Test.YteddelfkjpljpaaFpD
namespace Go.Proofs.Yteddelfkjpljpaa
open Go.RowKit Cl

end Go.Proofs.Yteddelfkjpljpaa
