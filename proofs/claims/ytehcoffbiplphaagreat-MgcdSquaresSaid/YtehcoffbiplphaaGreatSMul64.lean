/- Contract: bits.Mul64 (the shelf's, laid for a seat in plain words). -/
import Derived.Shelf.Bits.Mul64
import Derived.Test.YtehcoffbiplphaaGreatRows
set_option linter.unusedVariables false
set_option linter.unusedSimpArgs false
namespace Go.Proofs.YtehcoffbiplphaaGreat
open Go.Shelf Go.RowKit Go.Lib
def mul64_ren:Go.Shelf.Ren:=⟨fun | 264=>143 | _=>0,fun | 46=>128 | 53=>38 | _=>0,fun _=>0⟩
theorem mul64_lays:Lays.n264 Tryz.prog mul64_ren where
 mixed:=by kernel_rfl
 f264:=Tryz.func143.trans (congrArg some (by kernel_rfl))
 t46:=Tryz.underlying128
 a46:=Tryz.isAgg128
 z46:=Tryz.sizeOf128
 v46:=Tryz.zeroValue128
 t53:=Tryz.underlying38
 a53:=Tryz.isAgg38
 z53:=Tryz.sizeOf38
 v53:=Tryz.zeroValue38
theorem bits_mul64 (x y:Nat) (hx:x<18446744073709551616) (hy:y<18446744073709551616) (w:World):
 Calls Tryz.prog 143 #[.int .u64 x,.int .u64 y] w fun e w'=>e=.returned (.tuple #[.int .u64 ((x*y / 18446744073709551616:Nat):Int),.int .u64 ((x*y % 18446744073709551616:Nat):Int)])∧w'=w:=
 Any.bits_Mul64 mul64_lays x y hx hy w
end Go.Proofs.YtehcoffbiplphaaGreat
