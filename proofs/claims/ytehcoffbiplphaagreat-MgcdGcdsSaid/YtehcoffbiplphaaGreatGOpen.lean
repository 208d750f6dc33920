import Derived.Test.YtehcoffbiplphaaGreatGBase
import Derived.ProofKit
import Derived.SizedLaws
set_option linter.all false
namespace Go.Proofs.YtehcoffbiplphaaGreat
open Go.ChangeShapes Go.WideShapes Go.ChangeAt Go.RowKit Go.Deep
def zO {w:World} {p:Addr} {v:Value}(h:w.cell? p=some v):p.block<w.heap.size:=by
 unfold World.cell? at h;by_cases hb:p.block<w.heap.size
 . exact hb
 . rw [Xs (by omega)] at h
   cases h
def Km {n:Int}(h:(Lit.int .i64 n).wf=true):C7 n:=bounds_i64 h
