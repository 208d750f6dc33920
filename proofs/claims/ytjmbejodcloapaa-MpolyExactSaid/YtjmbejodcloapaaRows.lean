/-
  No cell of these rows narrows 'for every input' (looked for: loops, veiled, ifaces, maps, wideKeys, modest, calm, conditions, laid).
  DERIVED. THE GIVEN ROWS OF THIS SEAT. 4 by the template 'for every input the law returns true; each argument reads behind the call as it read before'; 0 by the template 'total and deterministic' (their statements: YtjmbejodcloapaaTotals.lean).
  GIVEN WITH THE SEED: the statements are not yours to turn. If you find one false, say at which input.
  Laid BY PROGRAM, IN A SANDBOX (cutbox-rows.mjs): the forced cells as the released guide's own fill.sh prints them over the translation 24873ff16b29eb34… (all of the seat's roots in one cut). By AI agents, Wed Nov 11 2026. No macro, syntax, notation, axiom, sorry.
-/
import Derived.Test.YtjmbejodcloapaaChecked
import GoSem.Claim
import GoSem.ClaimJoined
import GoSem.ClaimMapViews
import Derived.JoinedTies
import Derived.KernelRfl
namespace Go.Proofs.Ytjmbejodcloapaa
/- THE CELL 'sum', in the pinned program and in every row, IS THE sha256 OF THE DUMP (.gsa) THAT YtjmbejodcloapaaProg.lean LOADS. Nothing in Lean hashes anything: it is a label: what it is worth is what the hold of that sum in a sandbox is worth. -/
noncomputable def Try.pinned : Pinned := { name := "ytjmbejodcloapaa", sum := "24873ff16b29eb341fd18c4775cafd7883646f31a81d96948099bcf3bde7ca76", checked := Try.checked }
namespace Rows
def none {H : Type} : Left H := { results := [], args := [] }

/-- 'cleaverlaw17.MpolyRing': WHATEVER THE INPUT: true; the input reads as it did. -/
def mpolyRingSpec : ChangeSpec := { name := "mpolyRing", fn := fun _ => fun
  | [d1, d2, d3, d4] => { results := [.lit (.bool true)], args := [d1, d2, d3, d4] }
  | _ => none }
def mpolyRingRow : OpenClaim := { program := "ytjmbejodcloapaa", sum := "24873ff16b29eb341fd18c4775cafd7883646f31a81d96948099bcf3bde7ca76", func := "cleaver/cleaverlaw17.MpolyRing", spec := "mpolyRing", inPlace := ["math/bits.Add64", "math/bits.Sub64"], unfollowed := true, recurses := true, named := ["math/bits.divideError", "math/bits.overflowError"], plainKeys := false, apart := false }
def MpolyRingSaid : Prop := mpolyRingRow.holds Try.pinned (OpenSpec.ofChange mpolyRingSpec)

/-- ITS FALSE NEIGHBOUR: 'it returns false'. Refute it at one input. -/
def mpolyRingWrong : ChangeSpec := { name := "mpolyRing", fn := fun _ => fun
  | [d1, d2, d3, d4] => { results := [.lit (.bool false)], args := [d1, d2, d3, d4] }
  | _ => none }
def MpolyRingWrongFalsely : Prop := mpolyRingRow.holds Try.pinned (OpenSpec.ofChange mpolyRingWrong)

/-- 'cleaverlaw17.MpolyExact': WHATEVER THE INPUT: true; the input reads as it did. -/
def mpolyExactSpec : ChangeSpec := { name := "mpolyExact", fn := fun _ => fun
  | [d1, d2, d3] => { results := [.lit (.bool true)], args := [d1, d2, d3] }
  | _ => none }
def mpolyExactRow : OpenClaim := { program := "ytjmbejodcloapaa", sum := "24873ff16b29eb341fd18c4775cafd7883646f31a81d96948099bcf3bde7ca76", func := "cleaver/cleaverlaw17.MpolyExact", spec := "mpolyExact", inPlace := ["math/bits.Add64", "math/bits.Sub64"], unfollowed := true, recurses := true, named := ["math/bits.divideError", "math/bits.overflowError"], plainKeys := false, apart := false }
def MpolyExactSaid : Prop := mpolyExactRow.holds Try.pinned (OpenSpec.ofChange mpolyExactSpec)

/-- ITS FALSE NEIGHBOUR: 'it returns false'. Refute it at one input. -/
def mpolyExactWrong : ChangeSpec := { name := "mpolyExact", fn := fun _ => fun
  | [d1, d2, d3] => { results := [.lit (.bool false)], args := [d1, d2, d3] }
  | _ => none }
def MpolyExactWrongFalsely : Prop := mpolyExactRow.holds Try.pinned (OpenSpec.ofChange mpolyExactWrong)

/-- 'cleaverlaw17.MpolyValues': WHATEVER THE INPUT: true; the input reads as it did. -/
def mpolyValuesSpec : ChangeSpec := { name := "mpolyValues", fn := fun _ => fun
  | [d1, d2, d3, d4, d5] => { results := [.lit (.bool true)], args := [d1, d2, d3, d4, d5] }
  | _ => none }
def mpolyValuesRow : OpenClaim := { program := "ytjmbejodcloapaa", sum := "24873ff16b29eb341fd18c4775cafd7883646f31a81d96948099bcf3bde7ca76", func := "cleaver/cleaverlaw17.MpolyValues", spec := "mpolyValues", inPlace := ["math/bits.Add64", "math/bits.Sub64"], unfollowed := true, recurses := true, named := ["math/bits.divideError", "math/bits.overflowError"], plainKeys := false, apart := false }
def MpolyValuesSaid : Prop := mpolyValuesRow.holds Try.pinned (OpenSpec.ofChange mpolyValuesSpec)

/-- ITS FALSE NEIGHBOUR: 'it returns false'. Refute it at one input. -/
def mpolyValuesWrong : ChangeSpec := { name := "mpolyValues", fn := fun _ => fun
  | [d1, d2, d3, d4, d5] => { results := [.lit (.bool false)], args := [d1, d2, d3, d4, d5] }
  | _ => none }
def MpolyValuesWrongFalsely : Prop := mpolyValuesRow.holds Try.pinned (OpenSpec.ofChange mpolyValuesWrong)

/-- 'cleaverlaw17.MpolyGauss': WHATEVER THE INPUT: true; the input reads as it did. -/
def mpolyGaussSpec : ChangeSpec := { name := "mpolyGauss", fn := fun _ => fun
  | [d1, d2, d3] => { results := [.lit (.bool true)], args := [d1, d2, d3] }
  | _ => none }
def mpolyGaussRow : OpenClaim := { program := "ytjmbejodcloapaa", sum := "24873ff16b29eb341fd18c4775cafd7883646f31a81d96948099bcf3bde7ca76", func := "cleaver/cleaverlaw17.MpolyGauss", spec := "mpolyGauss", inPlace := ["math/bits.Add64", "math/bits.Sub64"], unfollowed := true, recurses := true, named := ["math/bits.divideError", "math/bits.overflowError"], plainKeys := false, apart := false }
def MpolyGaussSaid : Prop := mpolyGaussRow.holds Try.pinned (OpenSpec.ofChange mpolyGaussSpec)

/-- ITS FALSE NEIGHBOUR: 'it returns false'. Refute it at one input. -/
def mpolyGaussWrong : ChangeSpec := { name := "mpolyGauss", fn := fun _ => fun
  | [d1, d2, d3] => { results := [.lit (.bool false)], args := [d1, d2, d3] }
  | _ => none }
def MpolyGaussWrongFalsely : Prop := mpolyGaussRow.holds Try.pinned (OpenSpec.ofChange mpolyGaussWrong)

/- THE SECOND FORM. 'bulk': how many values and letters a reading holds, each counted each time it is reached (what is shared counts as often as it is met; a slice's spare places count too). A statement '..UptoSaid' is the law's where the arguments, and the package variables that the reading takes, are together of bulk at most 1048576: NARROWER than '..Said'. Prove '..Said' where nothing that the law and all that it calls make is longer than what came in: it says more and counts as full. Else prove '..UptoSaid'. A law counts once. -/
mutual
def uptoBulk {H : Type} : DataW H → Nat
  | .lit (.string bytes) => bytes.length + 1
  | .lit _ => 1
  | .nil => 1
  | .ptr d => uptoBulk d + 1
  | .slice elems spare => uptoBulkAll elems + uptoBulkAll spare + 1
  | .agg parts => uptoBulkAll parts + 1
  | .iface _ d => uptoBulk d + 1
  | .map entries => uptoBulkEntries entries + 1
  | .held _ => 1
def uptoBulkAll {H : Type} : List (DataW H) → Nat
  | [] => 0
  | d :: r => uptoBulk d + uptoBulkAll r
def uptoBulkEntries {H : Type} : List (Lit × DataW H) → Nat
  | [] => 0
  | x :: r => uptoBulkEntry x + uptoBulkEntries r
def uptoBulkEntry {H : Type} : Lit × DataW H → Nat
  | (.string bytes, d) => bytes.length + uptoBulk d + 1
  | (_, d) => uptoBulk d + 1
 end
def uptoSmall : (H : Type) → List (DataW H) → Bool := fun _ ds => decide (uptoBulkAll ds ≤ 1048576)
def OpenSpec.upto (s : _root_.Go.ChangeSpec) : _root_.Go.OpenSpec := { _root_.Go.OpenSpec.ofChange s with cond := some uptoSmall }

/-- 'cleaverlaw17.MpolyRing', WHERE WHAT IT READS IS OF BULK AT MOST 1048576: true; the input reads as it did. -/
def mpolyRingUptoRow : OpenClaim := { program := "ytjmbejodcloapaa", sum := "24873ff16b29eb341fd18c4775cafd7883646f31a81d96948099bcf3bde7ca76", func := "cleaver/cleaverlaw17.MpolyRing", spec := "mpolyRing", inPlace := ["math/bits.Add64", "math/bits.Sub64"], unfollowed := true, recurses := true, named := ["math/bits.divideError", "math/bits.overflowError"], plainKeys := false, apart := false, narrowed := true }
def MpolyRingUptoSaid : Prop := mpolyRingUptoRow.holds Try.pinned (OpenSpec.upto mpolyRingSpec)

/-- 'cleaverlaw17.MpolyExact', WHERE WHAT IT READS IS OF BULK AT MOST 1048576: true; the input reads as it did. -/
def mpolyExactUptoRow : OpenClaim := { program := "ytjmbejodcloapaa", sum := "24873ff16b29eb341fd18c4775cafd7883646f31a81d96948099bcf3bde7ca76", func := "cleaver/cleaverlaw17.MpolyExact", spec := "mpolyExact", inPlace := ["math/bits.Add64", "math/bits.Sub64"], unfollowed := true, recurses := true, named := ["math/bits.divideError", "math/bits.overflowError"], plainKeys := false, apart := false, narrowed := true }
def MpolyExactUptoSaid : Prop := mpolyExactUptoRow.holds Try.pinned (OpenSpec.upto mpolyExactSpec)

/-- 'cleaverlaw17.MpolyValues', WHERE WHAT IT READS IS OF BULK AT MOST 1048576: true; the input reads as it did. -/
def mpolyValuesUptoRow : OpenClaim := { program := "ytjmbejodcloapaa", sum := "24873ff16b29eb341fd18c4775cafd7883646f31a81d96948099bcf3bde7ca76", func := "cleaver/cleaverlaw17.MpolyValues", spec := "mpolyValues", inPlace := ["math/bits.Add64", "math/bits.Sub64"], unfollowed := true, recurses := true, named := ["math/bits.divideError", "math/bits.overflowError"], plainKeys := false, apart := false, narrowed := true }
def MpolyValuesUptoSaid : Prop := mpolyValuesUptoRow.holds Try.pinned (OpenSpec.upto mpolyValuesSpec)

/-- 'cleaverlaw17.MpolyGauss', WHERE WHAT IT READS IS OF BULK AT MOST 1048576: true; the input reads as it did. -/
def mpolyGaussUptoRow : OpenClaim := { program := "ytjmbejodcloapaa", sum := "24873ff16b29eb341fd18c4775cafd7883646f31a81d96948099bcf3bde7ca76", func := "cleaver/cleaverlaw17.MpolyGauss", spec := "mpolyGauss", inPlace := ["math/bits.Add64", "math/bits.Sub64"], unfollowed := true, recurses := true, named := ["math/bits.divideError", "math/bits.overflowError"], plainKeys := false, apart := false, narrowed := true }
def MpolyGaussUptoSaid : Prop := mpolyGaussUptoRow.holds Try.pinned (OpenSpec.upto mpolyGaussSpec)

end Rows
end Go.Proofs.Ytjmbejodcloapaa
