import Derived.Test.YtehcoffbiplphaaGreatHAl
import Derived.Shelf.Bits.Mul64
import Derived.Test.YtehcoffbiplphaaGreatRows
set_option linter.all false
namespace Go.Proofs.YtehcoffbiplphaaGreat
open Go.Proofs.Tryz
open Go.Shelf Go.RowKit Go.Lib
def Xk:Go.Shelf.Ren:=⟨fun | 264=>143 | _=>0,fun | 46=>128 | 53=>38 | _=>0,fun _=>0⟩
def SV:Lays.n264 prog Xk where
 mixed:=by kernel_rfl
 f264:=func143.trans (dh some (by kernel_rfl))
 t46:=underlying128
 a46:=isAgg128
 z46:=sizeOf128
 v46:=zeroValue128
 t53:=underlying38
 a53:=isAgg38
 z53:=sizeOf38
 v53:=zeroValue38
def JM (x y:Nat) (hx:x<18446744073709551616) (hy:y<18446744073709551616) (w:World):
 Calls prog 143 #[.int .u64 x,.int .u64 y] w fun e w'=>e=.returned (.tuple #[.int .u64 ((x*y / 18446744073709551616:Nat):Int),.int .u64 ((x*y % 18446744073709551616:Nat):Int)])∧w'=w:=
 Any.bits_Mul64 SV x y hx hy w
