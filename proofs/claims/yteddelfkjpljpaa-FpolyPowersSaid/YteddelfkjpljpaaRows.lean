/-
  No cell of these rows narrows 'for every input' (looked for: loops, veiled, ifaces, maps, wideKeys, modest, calm, conditions, laid).
  DERIVED. THE GIVEN ROWS OF THIS SEAT. 9 by the template 'for every input the law returns true; each argument reads behind the call as it read before'; 0 by the template 'total and deterministic' (their statements: YteddelfkjpljpaaTotals.lean).
  GIVEN WITH THE SEED: the statements are not yours to turn. If you find one false, say at which input.
  Laid BY PROGRAM, IN A SANDBOX (cutbox-rows.mjs): the forced cells as the released guide's own fill.sh prints them over the translation e4a00f9d0901e81c… (all of the seat's roots in one cut). By AI agents, Wed Nov 11 2026. No macro, syntax, notation, axiom, sorry.
-/
import Derived.Test.YteddelfkjpljpaaChecked
import GoSem.Claim
import GoSem.ClaimJoined
import GoSem.ClaimMapViews
import Derived.JoinedTies
import Derived.KernelRfl
namespace Go.Proofs.Yteddelfkjpljpaa
/- THE CELL 'sum', in the pinned program and in every row, IS THE sha256 OF THE DUMP (.gsa) THAT YteddelfkjpljpaaProg.lean LOADS. Nothing in Lean hashes anything: it is a label: what it is worth is what the hold of that sum in a sandbox is worth. -/
noncomputable def Try.pinned : Pinned := { name := "yteddelfkjpljpaa", sum := "e4a00f9d0901e81c382253a38103867c8c2019ac5559031b4084f9d7144cf7ad", checked := Try.checked }
namespace Rows
def none {H : Type} : Left H := { results := [], args := [] }

/-- 'cleaverlaw06.FpolyPowers': WHATEVER THE INPUT: true; the input reads as it did. -/
def fpolyPowersSpec : ChangeSpec := { name := "fpolyPowers", fn := fun _ => fun
  | [d1, d2, d3, d4] => { results := [.lit (.bool true)], args := [d1, d2, d3, d4] }
  | _ => none }
def fpolyPowersRow : OpenClaim := { program := "yteddelfkjpljpaa", sum := "e4a00f9d0901e81c382253a38103867c8c2019ac5559031b4084f9d7144cf7ad", func := "cleaver/cleaverlaw06.FpolyPowers", spec := "fpolyPowers", apart := false }
def FpolyPowersSaid : Prop := fpolyPowersRow.holds Try.pinned (OpenSpec.ofChange fpolyPowersSpec)

/-- ITS FALSE NEIGHBOUR: 'it returns false'. Refute it at one input. -/
def fpolyPowersWrong : ChangeSpec := { name := "fpolyPowers", fn := fun _ => fun
  | [d1, d2, d3, d4] => { results := [.lit (.bool false)], args := [d1, d2, d3, d4] }
  | _ => none }
def FpolyPowersWrongFalsely : Prop := fpolyPowersRow.holds Try.pinned (OpenSpec.ofChange fpolyPowersWrong)

/-- 'cleaverlaw06.FpolyRest': WHATEVER THE INPUT: true; the input reads as it did. -/
def fpolyRestSpec : ChangeSpec := { name := "fpolyRest", fn := fun _ => fun
  | [d1, d2, d3] => { results := [.lit (.bool true)], args := [d1, d2, d3] }
  | _ => none }
def fpolyRestRow : OpenClaim := { program := "yteddelfkjpljpaa", sum := "e4a00f9d0901e81c382253a38103867c8c2019ac5559031b4084f9d7144cf7ad", func := "cleaver/cleaverlaw06.FpolyRest", spec := "fpolyRest", apart := false }
def FpolyRestSaid : Prop := fpolyRestRow.holds Try.pinned (OpenSpec.ofChange fpolyRestSpec)

/-- ITS FALSE NEIGHBOUR: 'it returns false'. Refute it at one input. -/
def fpolyRestWrong : ChangeSpec := { name := "fpolyRest", fn := fun _ => fun
  | [d1, d2, d3] => { results := [.lit (.bool false)], args := [d1, d2, d3] }
  | _ => none }
def FpolyRestWrongFalsely : Prop := fpolyRestRow.holds Try.pinned (OpenSpec.ofChange fpolyRestWrong)

/-- 'cleaverlaw06.FpolyFrobenius': WHATEVER THE INPUT: true; the input reads as it did. -/
def fpolyFrobeniusSpec : ChangeSpec := { name := "fpolyFrobenius", fn := fun _ => fun
  | [d1, d2, d3, d4, d5, d6] => { results := [.lit (.bool true)], args := [d1, d2, d3, d4, d5, d6] }
  | _ => none }
def fpolyFrobeniusRow : OpenClaim := { program := "yteddelfkjpljpaa", sum := "e4a00f9d0901e81c382253a38103867c8c2019ac5559031b4084f9d7144cf7ad", func := "cleaver/cleaverlaw06.FpolyFrobenius", spec := "fpolyFrobenius", apart := false }
def FpolyFrobeniusSaid : Prop := fpolyFrobeniusRow.holds Try.pinned (OpenSpec.ofChange fpolyFrobeniusSpec)

/-- ITS FALSE NEIGHBOUR: 'it returns false'. Refute it at one input. -/
def fpolyFrobeniusWrong : ChangeSpec := { name := "fpolyFrobenius", fn := fun _ => fun
  | [d1, d2, d3, d4, d5, d6] => { results := [.lit (.bool false)], args := [d1, d2, d3, d4, d5, d6] }
  | _ => none }
def FpolyFrobeniusWrongFalsely : Prop := fpolyFrobeniusRow.holds Try.pinned (OpenSpec.ofChange fpolyFrobeniusWrong)

/-- 'cleaverlaw06.FpolyAdds': WHATEVER THE INPUT: true; the input reads as it did. -/
def fpolyAddsSpec : ChangeSpec := { name := "fpolyAdds", fn := fun _ => fun
  | [d1, d2, d3] => { results := [.lit (.bool true)], args := [d1, d2, d3] }
  | _ => none }
def fpolyAddsRow : OpenClaim := { program := "yteddelfkjpljpaa", sum := "e4a00f9d0901e81c382253a38103867c8c2019ac5559031b4084f9d7144cf7ad", func := "cleaver/cleaverlaw06.FpolyAdds", spec := "fpolyAdds", apart := false }
def FpolyAddsSaid : Prop := fpolyAddsRow.holds Try.pinned (OpenSpec.ofChange fpolyAddsSpec)

/-- ITS FALSE NEIGHBOUR: 'it returns false'. Refute it at one input. -/
def fpolyAddsWrong : ChangeSpec := { name := "fpolyAdds", fn := fun _ => fun
  | [d1, d2, d3] => { results := [.lit (.bool false)], args := [d1, d2, d3] }
  | _ => none }
def FpolyAddsWrongFalsely : Prop := fpolyAddsRow.holds Try.pinned (OpenSpec.ofChange fpolyAddsWrong)

/-- 'cleaverlaw06.FpolyRing': WHATEVER THE INPUT: true; the input reads as it did. -/
def fpolyRingSpec : ChangeSpec := { name := "fpolyRing", fn := fun _ => fun
  | [d1, d2, d3, d4] => { results := [.lit (.bool true)], args := [d1, d2, d3, d4] }
  | _ => none }
def fpolyRingRow : OpenClaim := { program := "yteddelfkjpljpaa", sum := "e4a00f9d0901e81c382253a38103867c8c2019ac5559031b4084f9d7144cf7ad", func := "cleaver/cleaverlaw06.FpolyRing", spec := "fpolyRing", apart := false }
def FpolyRingSaid : Prop := fpolyRingRow.holds Try.pinned (OpenSpec.ofChange fpolyRingSpec)

/-- ITS FALSE NEIGHBOUR: 'it returns false'. Refute it at one input. -/
def fpolyRingWrong : ChangeSpec := { name := "fpolyRing", fn := fun _ => fun
  | [d1, d2, d3, d4] => { results := [.lit (.bool false)], args := [d1, d2, d3, d4] }
  | _ => none }
def FpolyRingWrongFalsely : Prop := fpolyRingRow.holds Try.pinned (OpenSpec.ofChange fpolyRingWrong)

/-- 'cleaverlaw06.FpolyDivides': WHATEVER THE INPUT: true; the input reads as it did. -/
def fpolyDividesSpec : ChangeSpec := { name := "fpolyDivides", fn := fun _ => fun
  | [d1, d2, d3, d4] => { results := [.lit (.bool true)], args := [d1, d2, d3, d4] }
  | _ => none }
def fpolyDividesRow : OpenClaim := { program := "yteddelfkjpljpaa", sum := "e4a00f9d0901e81c382253a38103867c8c2019ac5559031b4084f9d7144cf7ad", func := "cleaver/cleaverlaw06.FpolyDivides", spec := "fpolyDivides", apart := false }
def FpolyDividesSaid : Prop := fpolyDividesRow.holds Try.pinned (OpenSpec.ofChange fpolyDividesSpec)

/-- ITS FALSE NEIGHBOUR: 'it returns false'. Refute it at one input. -/
def fpolyDividesWrong : ChangeSpec := { name := "fpolyDivides", fn := fun _ => fun
  | [d1, d2, d3, d4] => { results := [.lit (.bool false)], args := [d1, d2, d3, d4] }
  | _ => none }
def FpolyDividesWrongFalsely : Prop := fpolyDividesRow.holds Try.pinned (OpenSpec.ofChange fpolyDividesWrong)

/-- 'cleaverlaw06.FpolyGcds': WHATEVER THE INPUT: true; the input reads as it did. -/
def fpolyGcdsSpec : ChangeSpec := { name := "fpolyGcds", fn := fun _ => fun
  | [d1, d2, d3] => { results := [.lit (.bool true)], args := [d1, d2, d3] }
  | _ => none }
def fpolyGcdsRow : OpenClaim := { program := "yteddelfkjpljpaa", sum := "e4a00f9d0901e81c382253a38103867c8c2019ac5559031b4084f9d7144cf7ad", func := "cleaver/cleaverlaw06.FpolyGcds", spec := "fpolyGcds", apart := false }
def FpolyGcdsSaid : Prop := fpolyGcdsRow.holds Try.pinned (OpenSpec.ofChange fpolyGcdsSpec)

/-- ITS FALSE NEIGHBOUR: 'it returns false'. Refute it at one input. -/
def fpolyGcdsWrong : ChangeSpec := { name := "fpolyGcds", fn := fun _ => fun
  | [d1, d2, d3] => { results := [.lit (.bool false)], args := [d1, d2, d3] }
  | _ => none }
def FpolyGcdsWrongFalsely : Prop := fpolyGcdsRow.holds Try.pinned (OpenSpec.ofChange fpolyGcdsWrong)

/-- 'cleaverlaw06.FpolyLeibniz': WHATEVER THE INPUT: true; the input reads as it did. -/
def fpolyLeibnizSpec : ChangeSpec := { name := "fpolyLeibniz", fn := fun _ => fun
  | [d1, d2, d3, d4] => { results := [.lit (.bool true)], args := [d1, d2, d3, d4] }
  | _ => none }
def fpolyLeibnizRow : OpenClaim := { program := "yteddelfkjpljpaa", sum := "e4a00f9d0901e81c382253a38103867c8c2019ac5559031b4084f9d7144cf7ad", func := "cleaver/cleaverlaw06.FpolyLeibniz", spec := "fpolyLeibniz", apart := false }
def FpolyLeibnizSaid : Prop := fpolyLeibnizRow.holds Try.pinned (OpenSpec.ofChange fpolyLeibnizSpec)

/-- ITS FALSE NEIGHBOUR: 'it returns false'. Refute it at one input. -/
def fpolyLeibnizWrong : ChangeSpec := { name := "fpolyLeibniz", fn := fun _ => fun
  | [d1, d2, d3, d4] => { results := [.lit (.bool false)], args := [d1, d2, d3, d4] }
  | _ => none }
def FpolyLeibnizWrongFalsely : Prop := fpolyLeibnizRow.holds Try.pinned (OpenSpec.ofChange fpolyLeibnizWrong)

/-- 'cleaverlaw06.FpolyDivisor': WHATEVER THE INPUT: true; the input reads as it did. -/
def fpolyDivisorSpec : ChangeSpec := { name := "fpolyDivisor", fn := fun _ => fun
  | [d1, d2, d3, d4] => { results := [.lit (.bool true)], args := [d1, d2, d3, d4] }
  | _ => none }
def fpolyDivisorRow : OpenClaim := { program := "yteddelfkjpljpaa", sum := "e4a00f9d0901e81c382253a38103867c8c2019ac5559031b4084f9d7144cf7ad", func := "cleaver/cleaverlaw06.FpolyDivisor", spec := "fpolyDivisor", apart := false }
def FpolyDivisorSaid : Prop := fpolyDivisorRow.holds Try.pinned (OpenSpec.ofChange fpolyDivisorSpec)

/-- ITS FALSE NEIGHBOUR: 'it returns false'. Refute it at one input. -/
def fpolyDivisorWrong : ChangeSpec := { name := "fpolyDivisor", fn := fun _ => fun
  | [d1, d2, d3, d4] => { results := [.lit (.bool false)], args := [d1, d2, d3, d4] }
  | _ => none }
def FpolyDivisorWrongFalsely : Prop := fpolyDivisorRow.holds Try.pinned (OpenSpec.ofChange fpolyDivisorWrong)

/- THE SECOND FORM. 'bulk': how many values and letters a reading holds, each counted each time it is reached (what is shared counts as often as it is met; a slice's spare places count too). A statement '..UptoSaid' is the law's where the arguments, and the package variables that the reading takes, are together of bulk at most 1048576: NARROWER than '..Said'. Prove '..Said' where nothing that the law and all that it calls make is longer than what came in: it says more and counts as full. Else prove '..UptoSaid'. A law counts once. -/
mutual
def uptoBulk {H : Type} : DataW H → Nat
  | .lit (.string bytes) => bytes.length + 1
  | .lit _ => 1
  | .nil => 1
  | .ptr d => uptoBulk d + 1
  | .slice elems spare => uptoBulkAll elems + uptoBulkAll spare + 1
  | .agg parts => uptoBulkAll parts + 1
  | .iface _ d => uptoBulk d + 1
  | .map entries => uptoBulkEntries entries + 1
  | .held _ => 1
def uptoBulkAll {H : Type} : List (DataW H) → Nat
  | [] => 0
  | d :: r => uptoBulk d + uptoBulkAll r
def uptoBulkEntries {H : Type} : List (Lit × DataW H) → Nat
  | [] => 0
  | x :: r => uptoBulkEntry x + uptoBulkEntries r
def uptoBulkEntry {H : Type} : Lit × DataW H → Nat
  | (.string bytes, d) => bytes.length + uptoBulk d + 1
  | (_, d) => uptoBulk d + 1
 end
def uptoSmall : (H : Type) → List (DataW H) → Bool := fun _ ds => decide (uptoBulkAll ds ≤ 1048576)
def OpenSpec.upto (s : _root_.Go.ChangeSpec) : _root_.Go.OpenSpec := { _root_.Go.OpenSpec.ofChange s with cond := some uptoSmall }

/-- 'cleaverlaw06.FpolyPowers', WHERE WHAT IT READS IS OF BULK AT MOST 1048576: true; the input reads as it did. -/
def fpolyPowersUptoRow : OpenClaim := { program := "yteddelfkjpljpaa", sum := "e4a00f9d0901e81c382253a38103867c8c2019ac5559031b4084f9d7144cf7ad", func := "cleaver/cleaverlaw06.FpolyPowers", spec := "fpolyPowers", apart := false, narrowed := true }
def FpolyPowersUptoSaid : Prop := fpolyPowersUptoRow.holds Try.pinned (OpenSpec.upto fpolyPowersSpec)

/-- 'cleaverlaw06.FpolyRest', WHERE WHAT IT READS IS OF BULK AT MOST 1048576: true; the input reads as it did. -/
def fpolyRestUptoRow : OpenClaim := { program := "yteddelfkjpljpaa", sum := "e4a00f9d0901e81c382253a38103867c8c2019ac5559031b4084f9d7144cf7ad", func := "cleaver/cleaverlaw06.FpolyRest", spec := "fpolyRest", apart := false, narrowed := true }
def FpolyRestUptoSaid : Prop := fpolyRestUptoRow.holds Try.pinned (OpenSpec.upto fpolyRestSpec)

/-- 'cleaverlaw06.FpolyFrobenius', WHERE WHAT IT READS IS OF BULK AT MOST 1048576: true; the input reads as it did. -/
def fpolyFrobeniusUptoRow : OpenClaim := { program := "yteddelfkjpljpaa", sum := "e4a00f9d0901e81c382253a38103867c8c2019ac5559031b4084f9d7144cf7ad", func := "cleaver/cleaverlaw06.FpolyFrobenius", spec := "fpolyFrobenius", apart := false, narrowed := true }
def FpolyFrobeniusUptoSaid : Prop := fpolyFrobeniusUptoRow.holds Try.pinned (OpenSpec.upto fpolyFrobeniusSpec)

/-- 'cleaverlaw06.FpolyAdds', WHERE WHAT IT READS IS OF BULK AT MOST 1048576: true; the input reads as it did. -/
def fpolyAddsUptoRow : OpenClaim := { program := "yteddelfkjpljpaa", sum := "e4a00f9d0901e81c382253a38103867c8c2019ac5559031b4084f9d7144cf7ad", func := "cleaver/cleaverlaw06.FpolyAdds", spec := "fpolyAdds", apart := false, narrowed := true }
def FpolyAddsUptoSaid : Prop := fpolyAddsUptoRow.holds Try.pinned (OpenSpec.upto fpolyAddsSpec)

/-- 'cleaverlaw06.FpolyRing', WHERE WHAT IT READS IS OF BULK AT MOST 1048576: true; the input reads as it did. -/
def fpolyRingUptoRow : OpenClaim := { program := "yteddelfkjpljpaa", sum := "e4a00f9d0901e81c382253a38103867c8c2019ac5559031b4084f9d7144cf7ad", func := "cleaver/cleaverlaw06.FpolyRing", spec := "fpolyRing", apart := false, narrowed := true }
def FpolyRingUptoSaid : Prop := fpolyRingUptoRow.holds Try.pinned (OpenSpec.upto fpolyRingSpec)

/-- 'cleaverlaw06.FpolyDivides', WHERE WHAT IT READS IS OF BULK AT MOST 1048576: true; the input reads as it did. -/
def fpolyDividesUptoRow : OpenClaim := { program := "yteddelfkjpljpaa", sum := "e4a00f9d0901e81c382253a38103867c8c2019ac5559031b4084f9d7144cf7ad", func := "cleaver/cleaverlaw06.FpolyDivides", spec := "fpolyDivides", apart := false, narrowed := true }
def FpolyDividesUptoSaid : Prop := fpolyDividesUptoRow.holds Try.pinned (OpenSpec.upto fpolyDividesSpec)

/-- 'cleaverlaw06.FpolyGcds', WHERE WHAT IT READS IS OF BULK AT MOST 1048576: true; the input reads as it did. -/
def fpolyGcdsUptoRow : OpenClaim := { program := "yteddelfkjpljpaa", sum := "e4a00f9d0901e81c382253a38103867c8c2019ac5559031b4084f9d7144cf7ad", func := "cleaver/cleaverlaw06.FpolyGcds", spec := "fpolyGcds", apart := false, narrowed := true }
def FpolyGcdsUptoSaid : Prop := fpolyGcdsUptoRow.holds Try.pinned (OpenSpec.upto fpolyGcdsSpec)

/-- 'cleaverlaw06.FpolyLeibniz', WHERE WHAT IT READS IS OF BULK AT MOST 1048576: true; the input reads as it did. -/
def fpolyLeibnizUptoRow : OpenClaim := { program := "yteddelfkjpljpaa", sum := "e4a00f9d0901e81c382253a38103867c8c2019ac5559031b4084f9d7144cf7ad", func := "cleaver/cleaverlaw06.FpolyLeibniz", spec := "fpolyLeibniz", apart := false, narrowed := true }
def FpolyLeibnizUptoSaid : Prop := fpolyLeibnizUptoRow.holds Try.pinned (OpenSpec.upto fpolyLeibnizSpec)

/-- 'cleaverlaw06.FpolyDivisor', WHERE WHAT IT READS IS OF BULK AT MOST 1048576: true; the input reads as it did. -/
def fpolyDivisorUptoRow : OpenClaim := { program := "yteddelfkjpljpaa", sum := "e4a00f9d0901e81c382253a38103867c8c2019ac5559031b4084f9d7144cf7ad", func := "cleaver/cleaverlaw06.FpolyDivisor", spec := "fpolyDivisor", apart := false, narrowed := true }
def FpolyDivisorUptoSaid : Prop := fpolyDivisorUptoRow.holds Try.pinned (OpenSpec.upto fpolyDivisorSpec)

end Rows
end Go.Proofs.Yteddelfkjpljpaa
