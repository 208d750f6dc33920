/- The matrices' example: its plain rows, and what it makes nought. No program in sight. -/
import Derived.Test.YthpkpnpkkflfpaaFlinK
import Derived.Test.YthpkpnpkkflfpaaNull
namespace Go.Proofs.Ythpkpnpkkflfpaa
open Cl

theorem Pl.of_all {p : Int} {xs : List Int} (hp : 1 ≤ p) (h : xs.all (fun x => decide (0 ≤ x) && decide (x < p)) = true) : Pl p xs := fun i => by
  by_cases hi : i < xs.length
  · have := List.all_eq_true.1 h (nth xs i) (nth_mem hi)
    simpa using this
  · rw [nth_ge (by omega)]; omega
theorem sp_two {p : Int} {L m : Nat} {O : Nat → List Int} {v : Nat → Int} (a b : Int) (i j : Nat) (hi : i < m) (hj : j < m) (h : ∀ k, k < L → (a * nth (O i) k + b * nth (O j) k) % p = v k % p) : Sp p L (Rs m O) v :=
  (Sp.add (Sp.smul a (Sp.mem ⟨i, hi, rfl⟩)) (Sp.smul b (Sp.mem ⟨j, hj, rfl⟩))).cg fun k hk => Cg.iff_emod.2 (h k hk)

theorem ech_ex : IsEch [[1, 2], [2, 4], [0, 3]] 5 [[1, 0], [0, 1]] := by
  refine ⟨rAt [[1, 0], [0, 1]], 2, ⟨⟨by decide, fun k hk => ?_, by decide, by decide, fun j k h1 h2 => (by decide : ∀ k, k < 2 → ∀ j, j < k → leadN (rAt [[1, 0], [0, 1]] j) < leadN (rAt [[1, 0], [0, 1]] k)) k h2 j h1, fun j k h1 h2 h3 => (by decide : ∀ k, k < 2 → ∀ j, j < 2 → j ≠ k → nth (rAt [[1, 0], [0, 1]] j) (leadN (rAt [[1, 0], [0, 1]] k)) = 0) k h2 j h1 h3⟩, fun k hk => ?_, fun k hk => ?_⟩, by decide⟩
  · match k, hk with
    | 0, _ => exact Pl.of_all (by omega) (by decide)
    | 1, _ => exact Pl.of_all (by omega) (by decide)
  · match k, hk with
    | 0, _ => exact sp_two 1 2 0 1 (by decide) (by decide) (by decide)
    | 1, _ => exact sp_two 2 4 0 1 (by decide) (by decide) (by decide)
    | 2, _ => exact sp_two 0 3 0 1 (by decide) (by decide) (by decide)
  · match k, hk with
    | 0, _ => exact sp_two 1 1 0 2 (by decide) (by decide) (by decide)
    | 1, _ => exact sp_two 0 2 0 2 (by decide) (by decide) (by decide)
theorem ech_ex2 : IsEch [[1, 2, 3]] 5 [[1, 2, 3]] := by
  refine ⟨rAt [[1, 2, 3]], 1, ⟨⟨by decide, fun k hk => ?_, by decide, by decide, fun j k h1 h2 => by omega, fun j k h1 h2 h3 => by omega⟩, fun k hk => ?_, fun k hk => ?_⟩, by decide⟩
  · match k, hk with
    | 0, _ => exact Pl.of_all (by omega) (by decide)
  · match k, hk with
    | 0, _ => exact sp_two 1 0 0 0 (by decide) (by decide) (by decide)
  · match k, hk with
    | 0, _ => exact sp_two 1 0 0 0 (by decide) (by decide) (by decide)
end Go.Proofs.Ythpkpnpkkflfpaa
