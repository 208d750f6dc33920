/- The statements' own head: the document's example holds. -/
import Derived.Test.YthpkpnpkkflfpaaFpD
namespace Go.Proofs.Ythpkpnpkkflfpaa
open Go.RowKit Cl

theorem awake05 (w : World) : Calls Try.prog 14 #[] w fun e w' => e = .returned (.bool true) ∧ w = w' := by
  have c1 := inv_yes 3 7 w (by omega) (by omega) (by omega) (by omega) (by decide)
  rw [show invm 3 7 = 5 by decide, show invE 3 7 = 0 by decide] at c1
  have c2 := pow_yes 2 10 11 w (by omega) (by omega) (by omega) (by omega) (by omega) (by omega) (by decide)
  rw [show powm 2 (10 : Int).toNat 11 = 1 by decide] at c2
  have c3 := chk_no 9 w (by omega) (by omega) (by decide)
  have c4 := red_any (-1) 5 w (by omega) (by omega) (by omega) (by omega)
  rw [show red (-1) 5 = 4 by decide] at c4
  have C1 := Lib.hid c1; clear c1
  have C2 := Lib.hid c2; clear c2
  have C3 := Lib.hid c3; clear c3
  have C4 := Lib.hid c4; clear c4
  go_enter Try.func14, Try.ntmps14
  go_wp2_with (first
    | (go_at_call 19; refine C1.out.mono ?_; rintro e w' ⟨rfl, rfl⟩)
    | (go_at_call 16; refine C2.out.mono ?_; rintro e w' ⟨rfl, rfl⟩)
    | (go_at_call 18; refine C3.out.mono ?_; rintro e w' ⟨rfl, rfl⟩)
    | (go_at_call 15; refine C4.out.mono ?_; rintro e w' ⟨rfl, rfl⟩))
  go_ret
  exact ⟨rfl, rfl⟩

end Go.Proofs.Ythpkpnpkkflfpaa
