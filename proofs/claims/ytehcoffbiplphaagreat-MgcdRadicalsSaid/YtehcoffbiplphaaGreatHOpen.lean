import Derived.Test.YtehcoffbiplphaaGreatHBase
import Derived.ProofKit
import Derived.SizedLaws
set_option linter.all false
namespace Go.Proofs.YtehcoffbiplphaaGreat
open Go.ChangeShapes Go.WideShapes Go.ChangeAt Go.RowKit Go.Deep
def ze {w:World} {p:Addr} {v:Value}(h:w.cell? p=some v):p.block<w.heap.size:=by
 unfold World.cell? at h;by_cases hb:p.block<w.heap.size
 . exact hb
 . rw [Ye (by omega)] at h
   cases h
def LL {n:Int}(h:(Lit.int .i64 n).wf=true):DX n:=bounds_i64 h
