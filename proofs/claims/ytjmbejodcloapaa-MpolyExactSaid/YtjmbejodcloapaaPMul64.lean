/- Contract: bits.Mul64 (the shelf's, laid for a seat in plain words). -/
import Derived.Shelf.Bits.Mul64
import Derived.Test.YtjmbejodcloapaaRows
set_option linter.unusedVariables false
set_option linter.unusedSimpArgs false
namespace Go.Proofs.Ytjmbejodcloapaa
open Go.Shelf Go.RowKit Go.Lib
def mul64_ren : Go.Shelf.Ren := ⟨fun | 264 => 81 | _ => 0, fun | 46 => 103 | 53 => 77 | _ => 0, fun _ => 0⟩
theorem mul64_lays : Lays.n264 Try.prog mul64_ren where
  mixed := by kernel_rfl
  f264 := Try.func81.trans (congrArg some (by kernel_rfl))
  t46 := Try.underlying103
  a46 := Try.isAgg103
  z46 := Try.sizeOf103
  v46 := Try.zeroValue103
  t53 := Try.underlying77
  a53 := Try.isAgg77
  z53 := Try.sizeOf77
  v53 := Try.zeroValue77
theorem bits_mul64 (x y : Nat) (hx : x < 18446744073709551616) (hy : y < 18446744073709551616) (w : World) :
    Calls Try.prog 81 #[.int .u64 x, .int .u64 y] w fun e w' => e = .returned (.tuple #[.int .u64 ((x * y / 18446744073709551616 : Nat) : Int), .int .u64 ((x * y % 18446744073709551616 : Nat) : Int)]) ∧ w' = w :=
  Any.bits_Mul64 mul64_lays x y hx hy w
end Go.Proofs.Ytjmbejodcloapaa
