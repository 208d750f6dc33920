/- Contracts: a row less so many times another one. -/
import Derived.Test.YtbcapmnklgdeoaaFlinC
import Derived.Deep.RegionHeld3
import Derived.Deep.AppendLies
import Derived.Deep.DrawnRows
namespace Go.Proofs.Ytbcapmnklgdeoaa
open Go.RowKit Cl
attribute [local go_sem ↓] Go.wp_at_zero Go.wp_at_succ

end Go.Proofs.Ytbcapmnklgdeoaa
