/- What a reading of an argument tells of memory: a slice of numbers, a slice of such slices. -/
import Derived.Test.YtehcoffbiplphaaGreatSBase
import Derived.ProofKit
import Derived.SizedLaws
import Derived.Deep.Matrix
set_option linter.unusedVariables false
set_option linter.unusedSimpArgs false
namespace Cl
open Go Go.ChangeShapes Go.WideShapes Go.ChangeAt Go.RowKit Go.Deep
theorem lt_of_cell {w:World} {p:Addr} {v:Value}(h:w.cell? p=some v):p.block<w.heap.size:=by
 unfold World.cell? at h
 by_cases hb:p.block<w.heap.size
 · exact hb
 · rw [Array.getElem?_eq_none (by omega)] at h
   cases h
theorem i64_of_wf {n:Int}(h:(Lit.int .i64 n).wf=true):I64 n:=bounds_i64 h
end Cl
