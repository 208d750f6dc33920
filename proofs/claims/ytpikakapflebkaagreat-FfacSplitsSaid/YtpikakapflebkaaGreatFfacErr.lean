/- What ffac.monic tells is wrong, Factors, Irreducible, Split and Degrees tell. -/
import Derived.Test.YtpikakapflebkaaGreatLaw9Base
namespace Go.Proofs.YtpikakapflebkaaGreat
open Go.RowKit Cl
attribute [local go_sem ↓] Go.wp_at_zero Go.wp_at_succ

section
variable {A D : Option Addr} {n c nd cD : Nat} {p : Int} {w : World} {err : Int}
theorem ffactorsE (C : Calls Tryz.prog 27 #[.slice A n c, .int .i64 p] w fun e w' => e = .returned (.tuple #[.slice none 0 0, .int .i64 err]) ∧ Below w.heap.size w w') (he : (err != 0) = true) :
    Calls Tryz.prog 9 #[.slice A n c, .int .i64 p, .slice D nd cD] w fun e w' => e = .returned (.tuple #[.slice none 0 0, .int .i64 err]) ∧ Below w.heap.size w w' := by
  have C' := Lib.hid C
  clear C
  go_enter Tryz.func9, Tryz.ntmps9
  go_wp2_with fail
  refine C'.out.mono ?_
  rintro e w1 ⟨rfl, hb1⟩
  go_wp2_with fail
  go_ret2
  exact ⟨rfl, hb1⟩
theorem firrE (C : Calls Tryz.prog 27 #[.slice A n c, .int .i64 p] w fun e w' => e = .returned (.tuple #[.slice none 0 0, .int .i64 err]) ∧ Below w.heap.size w w') (he : (err != 0) = true) :
    Calls Tryz.prog 16 #[.slice A n c, .int .i64 p] w fun e w' => e = .returned (.tuple #[.bool false, .int .i64 err]) ∧ Below w.heap.size w w' := by
  have C' := Lib.hid C
  clear C
  go_enter Tryz.func16, Tryz.ntmps16
  go_wp2_with fail
  refine C'.out.mono ?_
  rintro e w1 ⟨rfl, hb1⟩
  go_wp2_with fail
  go_ret2
  exact ⟨rfl, hb1⟩
theorem fsplitE (C : Calls Tryz.prog 38 #[.slice A n c, .int .i64 p] w fun e w' => e = .returned (.tuple #[.slice none 0 0, .int .i64 err]) ∧ Below w.heap.size w w') (he : (err != 0) = true) :
    Calls Tryz.prog 19 #[.slice A n c, .int .i64 p, .slice D nd cD] w fun e w' => e = .returned (.tuple #[.slice none 0 0, .int .i64 err]) ∧ Below w.heap.size w w' := by
  have C' := Lib.hid C
  clear C
  go_enter Tryz.func19, Tryz.ntmps19
  go_wp2_with fail
  refine C'.out.mono ?_
  rintro e w1 ⟨rfl, hb1⟩
  go_wp2_with fail
  go_ret2
  exact ⟨rfl, hb1⟩
theorem fdegreesE (C : Calls Tryz.prog 38 #[.slice A n c, .int .i64 p] w fun e w' => e = .returned (.tuple #[.slice none 0 0, .int .i64 err]) ∧ Below w.heap.size w w') (he : (err != 0) = true) :
    Calls Tryz.prog 20 #[.slice A n c, .int .i64 p] w fun e w' => e = .returned (.tuple #[.slice none 0 0, .int .i64 err]) ∧ Below w.heap.size w w' := by
  have C' := Lib.hid C
  clear C
  go_enter Tryz.func20, Tryz.ntmps20
  go_wp2_with fail
  refine C'.out.mono ?_
  rintro e w1 ⟨rfl, hb1⟩
  go_wp2_with fail
  go_ret2
  exact ⟨rfl, hb1⟩
end
end Go.Proofs.YtpikakapflebkaaGreat
