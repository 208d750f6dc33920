/-
  No cell of these rows narrows 'for every input' (looked for: loops, veiled, ifaces, maps, wideKeys, modest, calm, conditions, laid).
  DERIVED. THE GIVEN ROWS OF THIS SEAT. 5 by the template 'for every input the law returns true; each argument reads behind the call as it read before'; 0 by the template 'total and deterministic' (their statements: YtehcoffbiplphaaGreatTotals.lean).
  GIVEN WITH THE SEED: the statements are not yours to turn. If you find one false, say at which input.
  Laid BY PROGRAM, IN A SANDBOX (cutbox-rows.mjs): the forced cells as the released guide's own fill.sh prints them over the translation 48532452ef44bab2… (all of the seat's roots in one cut). By AI agents, Wed Nov 11 2026. No macro, syntax, notation, axiom, sorry.
-/
import Derived.Test.YtehcoffbiplphaaGreatChecked
import GoSem.Claim
import GoSem.ClaimJoined
import GoSem.ClaimMapViews
import Derived.JoinedTies
import Derived.KernelRfl
namespace Go.Proofs.YtehcoffbiplphaaGreat
/- THE CELL 'sum', in the pinned program and in every row, IS THE sha256 OF THE DUMP (.gsa) THAT YtehcoffbiplphaaGreatProg.lean LOADS. Nothing in Lean hashes anything: it is a label: what it is worth is what the hold of that sum in a sandbox is worth. -/
noncomputable def Tryz.pinned : Pinned := { name := "ytehcoffbiplphaagreat", sum := "48532452ef44bab27cc6f8efa94f6f5d579826c1c93246f5f768646e4cf20ea9", checked := Tryz.checked }
namespace Rows
def none {H : Type} : Left H := { results := [], args := [] }

/-- 'cleaverlaw18.MgcdGcds': WHATEVER THE INPUT: true; the input reads as it did. -/
def mgcdGcdsSpec : ChangeSpec := { name := "mgcdGcds", fn := fun _ => fun
  | [d1, d2, d3] => { results := [.lit (.bool true)], args := [d1, d2, d3] }
  | _ => none }
def mgcdGcdsRow : OpenClaim := { program := "ytehcoffbiplphaagreat", sum := "48532452ef44bab27cc6f8efa94f6f5d579826c1c93246f5f768646e4cf20ea9", func := "cleaver/cleaverlaw18.MgcdGcds", spec := "mgcdGcds", inPlace := ["math/bits.Add64", "math/bits.Sub64"], unfollowed := true, recurses := true, named := ["math/bits.divideError", "math/bits.overflowError"], plainKeys := false, apart := false }
def MgcdGcdsSaid : Prop := mgcdGcdsRow.holds Tryz.pinned (OpenSpec.ofChange mgcdGcdsSpec)

/-- ITS FALSE NEIGHBOUR: 'it returns false'. Refute it at one input. -/
def mgcdGcdsWrong : ChangeSpec := { name := "mgcdGcds", fn := fun _ => fun
  | [d1, d2, d3] => { results := [.lit (.bool false)], args := [d1, d2, d3] }
  | _ => none }
def MgcdGcdsWrongFalsely : Prop := mgcdGcdsRow.holds Tryz.pinned (OpenSpec.ofChange mgcdGcdsWrong)

/-- 'cleaverlaw18.MgcdRadicals': WHATEVER THE INPUT: true; the input reads as it did. -/
def mgcdRadicalsSpec : ChangeSpec := { name := "mgcdRadicals", fn := fun _ => fun
  | [d1, d2] => { results := [.lit (.bool true)], args := [d1, d2] }
  | _ => none }
def mgcdRadicalsRow : OpenClaim := { program := "ytehcoffbiplphaagreat", sum := "48532452ef44bab27cc6f8efa94f6f5d579826c1c93246f5f768646e4cf20ea9", func := "cleaver/cleaverlaw18.MgcdRadicals", spec := "mgcdRadicals", inPlace := ["math/bits.Add64", "math/bits.Sub64"], unfollowed := true, recurses := true, named := ["math/bits.divideError", "math/bits.overflowError"], plainKeys := false, apart := false }
def MgcdRadicalsSaid : Prop := mgcdRadicalsRow.holds Tryz.pinned (OpenSpec.ofChange mgcdRadicalsSpec)

/-- ITS FALSE NEIGHBOUR: 'it returns false'. Refute it at one input. -/
def mgcdRadicalsWrong : ChangeSpec := { name := "mgcdRadicals", fn := fun _ => fun
  | [d1, d2] => { results := [.lit (.bool false)], args := [d1, d2] }
  | _ => none }
def MgcdRadicalsWrongFalsely : Prop := mgcdRadicalsRow.holds Tryz.pinned (OpenSpec.ofChange mgcdRadicalsWrong)

/-- 'cleaverlaw18.MgcdMore': WHATEVER THE INPUT: true; the input reads as it did. -/
def mgcdMoreSpec : ChangeSpec := { name := "mgcdMore", fn := fun _ => fun
  | [d1, d2, d3, d4] => { results := [.lit (.bool true)], args := [d1, d2, d3, d4] }
  | _ => none }
def mgcdMoreRow : OpenClaim := { program := "ytehcoffbiplphaagreat", sum := "48532452ef44bab27cc6f8efa94f6f5d579826c1c93246f5f768646e4cf20ea9", func := "cleaver/cleaverlaw18.MgcdMore", spec := "mgcdMore", inPlace := ["math/bits.Add64", "math/bits.Sub64"], unfollowed := true, recurses := true, named := ["math/bits.divideError", "math/bits.overflowError"], plainKeys := false, apart := false }
def MgcdMoreSaid : Prop := mgcdMoreRow.holds Tryz.pinned (OpenSpec.ofChange mgcdMoreSpec)

/-- ITS FALSE NEIGHBOUR: 'it returns false'. Refute it at one input. -/
def mgcdMoreWrong : ChangeSpec := { name := "mgcdMore", fn := fun _ => fun
  | [d1, d2, d3, d4] => { results := [.lit (.bool false)], args := [d1, d2, d3, d4] }
  | _ => none }
def MgcdMoreWrongFalsely : Prop := mgcdMoreRow.holds Tryz.pinned (OpenSpec.ofChange mgcdMoreWrong)

/-- 'cleaverlaw18.MgcdDivides': WHATEVER THE INPUT: true; the input reads as it did. -/
def mgcdDividesSpec : ChangeSpec := { name := "mgcdDivides", fn := fun _ => fun
  | [d1, d2, d3] => { results := [.lit (.bool true)], args := [d1, d2, d3] }
  | _ => none }
def mgcdDividesRow : OpenClaim := { program := "ytehcoffbiplphaagreat", sum := "48532452ef44bab27cc6f8efa94f6f5d579826c1c93246f5f768646e4cf20ea9", func := "cleaver/cleaverlaw18.MgcdDivides", spec := "mgcdDivides", inPlace := ["math/bits.Add64", "math/bits.Sub64"], unfollowed := true, recurses := true, named := ["math/bits.divideError", "math/bits.overflowError"], plainKeys := false, apart := false }
def MgcdDividesSaid : Prop := mgcdDividesRow.holds Tryz.pinned (OpenSpec.ofChange mgcdDividesSpec)

/-- ITS FALSE NEIGHBOUR: 'it returns false'. Refute it at one input. -/
def mgcdDividesWrong : ChangeSpec := { name := "mgcdDivides", fn := fun _ => fun
  | [d1, d2, d3] => { results := [.lit (.bool false)], args := [d1, d2, d3] }
  | _ => none }
def MgcdDividesWrongFalsely : Prop := mgcdDividesRow.holds Tryz.pinned (OpenSpec.ofChange mgcdDividesWrong)

/-- 'cleaverlaw18.MgcdSquares': WHATEVER THE INPUT: true; the input reads as it did. -/
def mgcdSquaresSpec : ChangeSpec := { name := "mgcdSquares", fn := fun _ => fun
  | [d1, d2] => { results := [.lit (.bool true)], args := [d1, d2] }
  | _ => none }
def mgcdSquaresRow : OpenClaim := { program := "ytehcoffbiplphaagreat", sum := "48532452ef44bab27cc6f8efa94f6f5d579826c1c93246f5f768646e4cf20ea9", func := "cleaver/cleaverlaw18.MgcdSquares", spec := "mgcdSquares", inPlace := ["math/bits.Add64", "math/bits.Sub64"], unfollowed := true, recurses := true, named := ["math/bits.divideError", "math/bits.overflowError"], plainKeys := false, apart := false }
def MgcdSquaresSaid : Prop := mgcdSquaresRow.holds Tryz.pinned (OpenSpec.ofChange mgcdSquaresSpec)

/-- ITS FALSE NEIGHBOUR: 'it returns false'. Refute it at one input. -/
def mgcdSquaresWrong : ChangeSpec := { name := "mgcdSquares", fn := fun _ => fun
  | [d1, d2] => { results := [.lit (.bool false)], args := [d1, d2] }
  | _ => none }
def MgcdSquaresWrongFalsely : Prop := mgcdSquaresRow.holds Tryz.pinned (OpenSpec.ofChange mgcdSquaresWrong)

/- THE SECOND FORM. 'bulk': how many values and letters a reading holds, each counted each time it is reached (what is shared counts as often as it is met; a slice's spare places count too). A statement '..UptoSaid' is the law's where the arguments, and the package variables that the reading takes, are together of bulk at most 1048576: NARROWER than '..Said'. Prove '..Said' where nothing that the law and all that it calls make is longer than what came in: it says more and counts as full. Else prove '..UptoSaid'. A law counts once. -/
mutual
def uptoBulk {H : Type} : DataW H → Nat
  | .lit (.string bytes) => bytes.length + 1
  | .lit _ => 1
  | .nil => 1
  | .ptr d => uptoBulk d + 1
  | .slice elems spare => uptoBulkAll elems + uptoBulkAll spare + 1
  | .agg parts => uptoBulkAll parts + 1
  | .iface _ d => uptoBulk d + 1
  | .map entries => uptoBulkEntries entries + 1
  | .held _ => 1
def uptoBulkAll {H : Type} : List (DataW H) → Nat
  | [] => 0
  | d :: r => uptoBulk d + uptoBulkAll r
def uptoBulkEntries {H : Type} : List (Lit × DataW H) → Nat
  | [] => 0
  | x :: r => uptoBulkEntry x + uptoBulkEntries r
def uptoBulkEntry {H : Type} : Lit × DataW H → Nat
  | (.string bytes, d) => bytes.length + uptoBulk d + 1
  | (_, d) => uptoBulk d + 1
 end
def uptoSmall : (H : Type) → List (DataW H) → Bool := fun _ ds => decide (uptoBulkAll ds ≤ 1048576)
def OpenSpec.upto (s : _root_.Go.ChangeSpec) : _root_.Go.OpenSpec := { _root_.Go.OpenSpec.ofChange s with cond := some uptoSmall }

/-- 'cleaverlaw18.MgcdGcds', WHERE WHAT IT READS IS OF BULK AT MOST 1048576: true; the input reads as it did. -/
def mgcdGcdsUptoRow : OpenClaim := { program := "ytehcoffbiplphaagreat", sum := "48532452ef44bab27cc6f8efa94f6f5d579826c1c93246f5f768646e4cf20ea9", func := "cleaver/cleaverlaw18.MgcdGcds", spec := "mgcdGcds", inPlace := ["math/bits.Add64", "math/bits.Sub64"], unfollowed := true, recurses := true, named := ["math/bits.divideError", "math/bits.overflowError"], plainKeys := false, apart := false, narrowed := true }
def MgcdGcdsUptoSaid : Prop := mgcdGcdsUptoRow.holds Tryz.pinned (OpenSpec.upto mgcdGcdsSpec)

/-- 'cleaverlaw18.MgcdRadicals', WHERE WHAT IT READS IS OF BULK AT MOST 1048576: true; the input reads as it did. -/
def mgcdRadicalsUptoRow : OpenClaim := { program := "ytehcoffbiplphaagreat", sum := "48532452ef44bab27cc6f8efa94f6f5d579826c1c93246f5f768646e4cf20ea9", func := "cleaver/cleaverlaw18.MgcdRadicals", spec := "mgcdRadicals", inPlace := ["math/bits.Add64", "math/bits.Sub64"], unfollowed := true, recurses := true, named := ["math/bits.divideError", "math/bits.overflowError"], plainKeys := false, apart := false, narrowed := true }
def MgcdRadicalsUptoSaid : Prop := mgcdRadicalsUptoRow.holds Tryz.pinned (OpenSpec.upto mgcdRadicalsSpec)

/-- 'cleaverlaw18.MgcdMore', WHERE WHAT IT READS IS OF BULK AT MOST 1048576: true; the input reads as it did. -/
def mgcdMoreUptoRow : OpenClaim := { program := "ytehcoffbiplphaagreat", sum := "48532452ef44bab27cc6f8efa94f6f5d579826c1c93246f5f768646e4cf20ea9", func := "cleaver/cleaverlaw18.MgcdMore", spec := "mgcdMore", inPlace := ["math/bits.Add64", "math/bits.Sub64"], unfollowed := true, recurses := true, named := ["math/bits.divideError", "math/bits.overflowError"], plainKeys := false, apart := false, narrowed := true }
def MgcdMoreUptoSaid : Prop := mgcdMoreUptoRow.holds Tryz.pinned (OpenSpec.upto mgcdMoreSpec)

/-- 'cleaverlaw18.MgcdDivides', WHERE WHAT IT READS IS OF BULK AT MOST 1048576: true; the input reads as it did. -/
def mgcdDividesUptoRow : OpenClaim := { program := "ytehcoffbiplphaagreat", sum := "48532452ef44bab27cc6f8efa94f6f5d579826c1c93246f5f768646e4cf20ea9", func := "cleaver/cleaverlaw18.MgcdDivides", spec := "mgcdDivides", inPlace := ["math/bits.Add64", "math/bits.Sub64"], unfollowed := true, recurses := true, named := ["math/bits.divideError", "math/bits.overflowError"], plainKeys := false, apart := false, narrowed := true }
def MgcdDividesUptoSaid : Prop := mgcdDividesUptoRow.holds Tryz.pinned (OpenSpec.upto mgcdDividesSpec)

/-- 'cleaverlaw18.MgcdSquares', WHERE WHAT IT READS IS OF BULK AT MOST 1048576: true; the input reads as it did. -/
def mgcdSquaresUptoRow : OpenClaim := { program := "ytehcoffbiplphaagreat", sum := "48532452ef44bab27cc6f8efa94f6f5d579826c1c93246f5f768646e4cf20ea9", func := "cleaver/cleaverlaw18.MgcdSquares", spec := "mgcdSquares", inPlace := ["math/bits.Add64", "math/bits.Sub64"], unfollowed := true, recurses := true, named := ["math/bits.divideError", "math/bits.overflowError"], plainKeys := false, apart := false, narrowed := true }
def MgcdSquaresUptoSaid : Prop := mgcdSquaresUptoRow.holds Tryz.pinned (OpenSpec.upto mgcdSquaresSpec)

end Rows
end Go.Proofs.YtehcoffbiplphaaGreat
