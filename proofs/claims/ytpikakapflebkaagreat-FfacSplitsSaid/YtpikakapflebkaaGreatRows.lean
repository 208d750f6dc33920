/-
  No cell of these rows narrows 'for every input' (looked for: loops, veiled, ifaces, maps, wideKeys, modest, calm, conditions, laid).
  DERIVED. THE GIVEN ROWS OF THIS SEAT. 4 by the template 'for every input the law returns true; each argument reads behind the call as it read before'; 0 by the template 'total and deterministic' (their statements: YtpikakapflebkaaGreatTotals.lean).
  GIVEN WITH THE SEED: the statements are not yours to turn. If you find one false, say at which input.
  Laid BY PROGRAM, IN A SANDBOX (cutbox-rows.mjs): the forced cells as the released guide's own fill.sh prints them over the translation e5e6b26e53f6a97b… (all of the seat's roots in one cut). By AI agents, Wed Nov 11 2026. No macro, syntax, notation, axiom, sorry.
-/
import Derived.Test.YtpikakapflebkaaGreatChecked
import GoSem.Claim
import GoSem.ClaimJoined
import GoSem.ClaimMapViews
import Derived.JoinedTies
import Derived.KernelRfl
namespace Go.Proofs.YtpikakapflebkaaGreat
/- THE CELL 'sum', in the pinned program and in every row, IS THE sha256 OF THE DUMP (.gsa) THAT YtpikakapflebkaaGreatProg.lean LOADS. Nothing in Lean hashes anything: it is a label: what it is worth is what the hold of that sum in a sandbox is worth. -/
noncomputable def Tryz.pinned : Pinned := { name := "ytpikakapflebkaagreat", sum := "e5e6b26e53f6a97bd5e5f320ae63a6bfac5f273a3469a90a0a405939bc86a157", checked := Tryz.checked }
namespace Rows
def none {H : Type} : Left H := { results := [], args := [] }

/-- 'cleaverlaw09.FfacBoth': WHATEVER THE INPUT: true; the input reads as it did. -/
def ffacBothSpec : ChangeSpec := { name := "ffacBoth", fn := fun _ => fun
  | [d1, d2, d3] => { results := [.lit (.bool true)], args := [d1, d2, d3] }
  | _ => none }
def ffacBothRow : OpenClaim := { program := "ytpikakapflebkaagreat", sum := "e5e6b26e53f6a97bd5e5f320ae63a6bfac5f273a3469a90a0a405939bc86a157", func := "cleaver/cleaverlaw09.FfacBoth", spec := "ffacBoth", unfollowed := true, recurses := true, apart := false }
def FfacBothSaid : Prop := ffacBothRow.holds Tryz.pinned (OpenSpec.ofChange ffacBothSpec)

/-- ITS FALSE NEIGHBOUR: 'it returns false'. Refute it at one input. -/
def ffacBothWrong : ChangeSpec := { name := "ffacBoth", fn := fun _ => fun
  | [d1, d2, d3] => { results := [.lit (.bool false)], args := [d1, d2, d3] }
  | _ => none }
def FfacBothWrongFalsely : Prop := ffacBothRow.holds Tryz.pinned (OpenSpec.ofChange ffacBothWrong)

/-- 'cleaverlaw09.FfacProduct': WHATEVER THE INPUT: true; the input reads as it did. -/
def ffacProductSpec : ChangeSpec := { name := "ffacProduct", fn := fun _ => fun
  | [d1, d2, d3] => { results := [.lit (.bool true)], args := [d1, d2, d3] }
  | _ => none }
def ffacProductRow : OpenClaim := { program := "ytpikakapflebkaagreat", sum := "e5e6b26e53f6a97bd5e5f320ae63a6bfac5f273a3469a90a0a405939bc86a157", func := "cleaver/cleaverlaw09.FfacProduct", spec := "ffacProduct", unfollowed := true, recurses := true, apart := false }
def FfacProductSaid : Prop := ffacProductRow.holds Tryz.pinned (OpenSpec.ofChange ffacProductSpec)

/-- ITS FALSE NEIGHBOUR: 'it returns false'. Refute it at one input. -/
def ffacProductWrong : ChangeSpec := { name := "ffacProduct", fn := fun _ => fun
  | [d1, d2, d3] => { results := [.lit (.bool false)], args := [d1, d2, d3] }
  | _ => none }
def FfacProductWrongFalsely : Prop := ffacProductRow.holds Tryz.pinned (OpenSpec.ofChange ffacProductWrong)

/-- 'cleaverlaw09.FfacAll': WHATEVER THE INPUT: true; the input reads as it did. -/
def ffacAllSpec : ChangeSpec := { name := "ffacAll", fn := fun _ => fun
  | [d1, d2, d3] => { results := [.lit (.bool true)], args := [d1, d2, d3] }
  | _ => none }
def ffacAllRow : OpenClaim := { program := "ytpikakapflebkaagreat", sum := "e5e6b26e53f6a97bd5e5f320ae63a6bfac5f273a3469a90a0a405939bc86a157", func := "cleaver/cleaverlaw09.FfacAll", spec := "ffacAll", unfollowed := true, recurses := true, apart := false }
def FfacAllSaid : Prop := ffacAllRow.holds Tryz.pinned (OpenSpec.ofChange ffacAllSpec)

/-- ITS FALSE NEIGHBOUR: 'it returns false'. Refute it at one input. -/
def ffacAllWrong : ChangeSpec := { name := "ffacAll", fn := fun _ => fun
  | [d1, d2, d3] => { results := [.lit (.bool false)], args := [d1, d2, d3] }
  | _ => none }
def FfacAllWrongFalsely : Prop := ffacAllRow.holds Tryz.pinned (OpenSpec.ofChange ffacAllWrong)

/-- 'cleaverlaw09.FfacSplits': WHATEVER THE INPUT: true; the input reads as it did. -/
def ffacSplitsSpec : ChangeSpec := { name := "ffacSplits", fn := fun _ => fun
  | [d1, d2, d3] => { results := [.lit (.bool true)], args := [d1, d2, d3] }
  | _ => none }
def ffacSplitsRow : OpenClaim := { program := "ytpikakapflebkaagreat", sum := "e5e6b26e53f6a97bd5e5f320ae63a6bfac5f273a3469a90a0a405939bc86a157", func := "cleaver/cleaverlaw09.FfacSplits", spec := "ffacSplits", unfollowed := true, recurses := true, apart := false }
def FfacSplitsSaid : Prop := ffacSplitsRow.holds Tryz.pinned (OpenSpec.ofChange ffacSplitsSpec)

/-- ITS FALSE NEIGHBOUR: 'it returns false'. Refute it at one input. -/
def ffacSplitsWrong : ChangeSpec := { name := "ffacSplits", fn := fun _ => fun
  | [d1, d2, d3] => { results := [.lit (.bool false)], args := [d1, d2, d3] }
  | _ => none }
def FfacSplitsWrongFalsely : Prop := ffacSplitsRow.holds Tryz.pinned (OpenSpec.ofChange ffacSplitsWrong)

/- THE SECOND FORM. 'bulk': how many values and letters a reading holds, each counted each time it is reached (what is shared counts as often as it is met; a slice's spare places count too). A statement '..UptoSaid' is the law's where the arguments, and the package variables that the reading takes, are together of bulk at most 1048576: NARROWER than '..Said'. Prove '..Said' where nothing that the law and all that it calls make is longer than what came in: it says more and counts as full. Else prove '..UptoSaid'. A law counts once. -/
mutual
def uptoBulk {H : Type} : DataW H → Nat
  | .lit (.string bytes) => bytes.length + 1
  | .lit _ => 1
  | .nil => 1
  | .ptr d => uptoBulk d + 1
  | .slice elems spare => uptoBulkAll elems + uptoBulkAll spare + 1
  | .agg parts => uptoBulkAll parts + 1
  | .iface _ d => uptoBulk d + 1
  | .map entries => uptoBulkEntries entries + 1
  | .held _ => 1
def uptoBulkAll {H : Type} : List (DataW H) → Nat
  | [] => 0
  | d :: r => uptoBulk d + uptoBulkAll r
def uptoBulkEntries {H : Type} : List (Lit × DataW H) → Nat
  | [] => 0
  | x :: r => uptoBulkEntry x + uptoBulkEntries r
def uptoBulkEntry {H : Type} : Lit × DataW H → Nat
  | (.string bytes, d) => bytes.length + uptoBulk d + 1
  | (_, d) => uptoBulk d + 1
 end
def uptoSmall : (H : Type) → List (DataW H) → Bool := fun _ ds => decide (uptoBulkAll ds ≤ 1048576)
def OpenSpec.upto (s : _root_.Go.ChangeSpec) : _root_.Go.OpenSpec := { _root_.Go.OpenSpec.ofChange s with cond := some uptoSmall }

/-- 'cleaverlaw09.FfacBoth', WHERE WHAT IT READS IS OF BULK AT MOST 1048576: true; the input reads as it did. -/
def ffacBothUptoRow : OpenClaim := { program := "ytpikakapflebkaagreat", sum := "e5e6b26e53f6a97bd5e5f320ae63a6bfac5f273a3469a90a0a405939bc86a157", func := "cleaver/cleaverlaw09.FfacBoth", spec := "ffacBoth", unfollowed := true, recurses := true, apart := false, narrowed := true }
def FfacBothUptoSaid : Prop := ffacBothUptoRow.holds Tryz.pinned (OpenSpec.upto ffacBothSpec)

/-- 'cleaverlaw09.FfacProduct', WHERE WHAT IT READS IS OF BULK AT MOST 1048576: true; the input reads as it did. -/
def ffacProductUptoRow : OpenClaim := { program := "ytpikakapflebkaagreat", sum := "e5e6b26e53f6a97bd5e5f320ae63a6bfac5f273a3469a90a0a405939bc86a157", func := "cleaver/cleaverlaw09.FfacProduct", spec := "ffacProduct", unfollowed := true, recurses := true, apart := false, narrowed := true }
def FfacProductUptoSaid : Prop := ffacProductUptoRow.holds Tryz.pinned (OpenSpec.upto ffacProductSpec)

/-- 'cleaverlaw09.FfacAll', WHERE WHAT IT READS IS OF BULK AT MOST 1048576: true; the input reads as it did. -/
def ffacAllUptoRow : OpenClaim := { program := "ytpikakapflebkaagreat", sum := "e5e6b26e53f6a97bd5e5f320ae63a6bfac5f273a3469a90a0a405939bc86a157", func := "cleaver/cleaverlaw09.FfacAll", spec := "ffacAll", unfollowed := true, recurses := true, apart := false, narrowed := true }
def FfacAllUptoSaid : Prop := ffacAllUptoRow.holds Tryz.pinned (OpenSpec.upto ffacAllSpec)

/-- 'cleaverlaw09.FfacSplits', WHERE WHAT IT READS IS OF BULK AT MOST 1048576: true; the input reads as it did. -/
def ffacSplitsUptoRow : OpenClaim := { program := "ytpikakapflebkaagreat", sum := "e5e6b26e53f6a97bd5e5f320ae63a6bfac5f273a3469a90a0a405939bc86a157", func := "cleaver/cleaverlaw09.FfacSplits", spec := "ffacSplits", unfollowed := true, recurses := true, apart := false, narrowed := true }
def FfacSplitsUptoSaid : Prop := ffacSplitsUptoRow.holds Tryz.pinned (OpenSpec.upto ffacSplitsSpec)

end Rows
end Go.Proofs.YtpikakapflebkaaGreat
