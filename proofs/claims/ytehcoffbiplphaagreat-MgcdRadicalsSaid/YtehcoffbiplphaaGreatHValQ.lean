import Derived.Test.YtehcoffbiplphaaGreatHTj
set_option linter.all false
namespace Go.Proofs.YtehcoffbiplphaaGreat
section
variable {n i : Nat}
def NU (i:Nat) (L:Mv):Mv:=mapM (fun p=>p.set i (max (nth p i-1) 0)) (fun p=>nth p i) L
def WJ {L:Mv}(h:eW n L):eW n (NU i L):=Ph h fun p hp=>by rw [fW];exact hp
