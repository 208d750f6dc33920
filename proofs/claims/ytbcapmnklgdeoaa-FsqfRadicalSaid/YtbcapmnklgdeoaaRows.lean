/-
  No cell of these rows narrows 'for every input' (looked for: loops, veiled, ifaces, maps, wideKeys, modest, calm, conditions, laid).
  DERIVED. THE GIVEN ROWS OF THIS SEAT. 5 by the template 'for every input the law returns true; each argument reads behind the call as it read before'; 0 by the template 'total and deterministic' (their statements: YtbcapmnklgdeoaaTotals.lean).
  GIVEN WITH THE SEED: the statements are not yours to turn. If you find one false, say at which input.
  Laid BY PROGRAM, IN A SANDBOX (cutbox-rows.mjs): the forced cells as the released guide's own fill.sh prints them over the translation 96a5e05b07bd51d1… (all of the seat's roots in one cut). By AI agents, Wed Nov 11 2026. No macro, syntax, notation, axiom, sorry.
-/
import Derived.Test.YtbcapmnklgdeoaaChecked
import GoSem.Claim
import GoSem.ClaimJoined
import GoSem.ClaimMapViews
import Derived.JoinedTies
import Derived.KernelRfl
namespace Go.Proofs.Ytbcapmnklgdeoaa
/- THE CELL 'sum', in the pinned program and in every row, IS THE sha256 OF THE DUMP (.gsa) THAT YtbcapmnklgdeoaaProg.lean LOADS. Nothing in Lean hashes anything: it is a label: what it is worth is what the hold of that sum in a sandbox is worth. -/
noncomputable def Try.pinned : Pinned := { name := "ytbcapmnklgdeoaa", sum := "96a5e05b07bd51d15e800d164773b7c3e23298fbf0ea8efbe2c86603bfa423b0", checked := Try.checked }
namespace Rows
def none {H : Type} : Left H := { results := [], args := [] }

/-- 'cleaverlaw08.FsqfPowers': WHATEVER THE INPUT: true; the input reads as it did. -/
def fsqfPowersSpec : ChangeSpec := { name := "fsqfPowers", fn := fun _ => fun
  | [d1, d2, d3] => { results := [.lit (.bool true)], args := [d1, d2, d3] }
  | _ => none }
def fsqfPowersRow : OpenClaim := { program := "ytbcapmnklgdeoaa", sum := "96a5e05b07bd51d15e800d164773b7c3e23298fbf0ea8efbe2c86603bfa423b0", func := "cleaver/cleaverlaw08.FsqfPowers", spec := "fsqfPowers", unfollowed := true, recurses := true, apart := false }
def FsqfPowersSaid : Prop := fsqfPowersRow.holds Try.pinned (OpenSpec.ofChange fsqfPowersSpec)

/-- ITS FALSE NEIGHBOUR: 'it returns false'. Refute it at one input. -/
def fsqfPowersWrong : ChangeSpec := { name := "fsqfPowers", fn := fun _ => fun
  | [d1, d2, d3] => { results := [.lit (.bool false)], args := [d1, d2, d3] }
  | _ => none }
def FsqfPowersWrongFalsely : Prop := fsqfPowersRow.holds Try.pinned (OpenSpec.ofChange fsqfPowersWrong)

/-- 'cleaverlaw08.FsqfProduct': WHATEVER THE INPUT: true; the input reads as it did. -/
def fsqfProductSpec : ChangeSpec := { name := "fsqfProduct", fn := fun _ => fun
  | [d1, d2] => { results := [.lit (.bool true)], args := [d1, d2] }
  | _ => none }
def fsqfProductRow : OpenClaim := { program := "ytbcapmnklgdeoaa", sum := "96a5e05b07bd51d15e800d164773b7c3e23298fbf0ea8efbe2c86603bfa423b0", func := "cleaver/cleaverlaw08.FsqfProduct", spec := "fsqfProduct", unfollowed := true, recurses := true, apart := false }
def FsqfProductSaid : Prop := fsqfProductRow.holds Try.pinned (OpenSpec.ofChange fsqfProductSpec)

/-- ITS FALSE NEIGHBOUR: 'it returns false'. Refute it at one input. -/
def fsqfProductWrong : ChangeSpec := { name := "fsqfProduct", fn := fun _ => fun
  | [d1, d2] => { results := [.lit (.bool false)], args := [d1, d2] }
  | _ => none }
def FsqfProductWrongFalsely : Prop := fsqfProductRow.holds Try.pinned (OpenSpec.ofChange fsqfProductWrong)

/-- 'cleaverlaw08.FsqfParts': WHATEVER THE INPUT: true; the input reads as it did. -/
def fsqfPartsSpec : ChangeSpec := { name := "fsqfParts", fn := fun _ => fun
  | [d1, d2] => { results := [.lit (.bool true)], args := [d1, d2] }
  | _ => none }
def fsqfPartsRow : OpenClaim := { program := "ytbcapmnklgdeoaa", sum := "96a5e05b07bd51d15e800d164773b7c3e23298fbf0ea8efbe2c86603bfa423b0", func := "cleaver/cleaverlaw08.FsqfParts", spec := "fsqfParts", unfollowed := true, recurses := true, apart := false }
def FsqfPartsSaid : Prop := fsqfPartsRow.holds Try.pinned (OpenSpec.ofChange fsqfPartsSpec)

/-- ITS FALSE NEIGHBOUR: 'it returns false'. Refute it at one input. -/
def fsqfPartsWrong : ChangeSpec := { name := "fsqfParts", fn := fun _ => fun
  | [d1, d2] => { results := [.lit (.bool false)], args := [d1, d2] }
  | _ => none }
def FsqfPartsWrongFalsely : Prop := fsqfPartsRow.holds Try.pinned (OpenSpec.ofChange fsqfPartsWrong)

/-- 'cleaverlaw08.FsqfApart': WHATEVER THE INPUT: true; the input reads as it did. -/
def fsqfApartSpec : ChangeSpec := { name := "fsqfApart", fn := fun _ => fun
  | [d1, d2] => { results := [.lit (.bool true)], args := [d1, d2] }
  | _ => none }
def fsqfApartRow : OpenClaim := { program := "ytbcapmnklgdeoaa", sum := "96a5e05b07bd51d15e800d164773b7c3e23298fbf0ea8efbe2c86603bfa423b0", func := "cleaver/cleaverlaw08.FsqfApart", spec := "fsqfApart", unfollowed := true, recurses := true, apart := false }
def FsqfApartSaid : Prop := fsqfApartRow.holds Try.pinned (OpenSpec.ofChange fsqfApartSpec)

/-- ITS FALSE NEIGHBOUR: 'it returns false'. Refute it at one input. -/
def fsqfApartWrong : ChangeSpec := { name := "fsqfApart", fn := fun _ => fun
  | [d1, d2] => { results := [.lit (.bool false)], args := [d1, d2] }
  | _ => none }
def FsqfApartWrongFalsely : Prop := fsqfApartRow.holds Try.pinned (OpenSpec.ofChange fsqfApartWrong)

/-- 'cleaverlaw08.FsqfRadical': WHATEVER THE INPUT: true; the input reads as it did. -/
def fsqfRadicalSpec : ChangeSpec := { name := "fsqfRadical", fn := fun _ => fun
  | [d1, d2, d3] => { results := [.lit (.bool true)], args := [d1, d2, d3] }
  | _ => none }
def fsqfRadicalRow : OpenClaim := { program := "ytbcapmnklgdeoaa", sum := "96a5e05b07bd51d15e800d164773b7c3e23298fbf0ea8efbe2c86603bfa423b0", func := "cleaver/cleaverlaw08.FsqfRadical", spec := "fsqfRadical", unfollowed := true, recurses := true, apart := false }
def FsqfRadicalSaid : Prop := fsqfRadicalRow.holds Try.pinned (OpenSpec.ofChange fsqfRadicalSpec)

/-- ITS FALSE NEIGHBOUR: 'it returns false'. Refute it at one input. -/
def fsqfRadicalWrong : ChangeSpec := { name := "fsqfRadical", fn := fun _ => fun
  | [d1, d2, d3] => { results := [.lit (.bool false)], args := [d1, d2, d3] }
  | _ => none }
def FsqfRadicalWrongFalsely : Prop := fsqfRadicalRow.holds Try.pinned (OpenSpec.ofChange fsqfRadicalWrong)

/- THE SECOND FORM. 'bulk': how many values and letters a reading holds, each counted each time it is reached (what is shared counts as often as it is met; a slice's spare places count too). A statement '..UptoSaid' is the law's where the arguments, and the package variables that the reading takes, are together of bulk at most 1048576: NARROWER than '..Said'. Prove '..Said' where nothing that the law and all that it calls make is longer than what came in: it says more and counts as full. Else prove '..UptoSaid'. A law counts once. -/
mutual
def uptoBulk {H : Type} : DataW H → Nat
  | .lit (.string bytes) => bytes.length + 1
  | .lit _ => 1
  | .nil => 1
  | .ptr d => uptoBulk d + 1
  | .slice elems spare => uptoBulkAll elems + uptoBulkAll spare + 1
  | .agg parts => uptoBulkAll parts + 1
  | .iface _ d => uptoBulk d + 1
  | .map entries => uptoBulkEntries entries + 1
  | .held _ => 1
def uptoBulkAll {H : Type} : List (DataW H) → Nat
  | [] => 0
  | d :: r => uptoBulk d + uptoBulkAll r
def uptoBulkEntries {H : Type} : List (Lit × DataW H) → Nat
  | [] => 0
  | x :: r => uptoBulkEntry x + uptoBulkEntries r
def uptoBulkEntry {H : Type} : Lit × DataW H → Nat
  | (.string bytes, d) => bytes.length + uptoBulk d + 1
  | (_, d) => uptoBulk d + 1
 end
def uptoSmall : (H : Type) → List (DataW H) → Bool := fun _ ds => decide (uptoBulkAll ds ≤ 1048576)
def OpenSpec.upto (s : _root_.Go.ChangeSpec) : _root_.Go.OpenSpec := { _root_.Go.OpenSpec.ofChange s with cond := some uptoSmall }

/-- 'cleaverlaw08.FsqfPowers', WHERE WHAT IT READS IS OF BULK AT MOST 1048576: true; the input reads as it did. -/
def fsqfPowersUptoRow : OpenClaim := { program := "ytbcapmnklgdeoaa", sum := "96a5e05b07bd51d15e800d164773b7c3e23298fbf0ea8efbe2c86603bfa423b0", func := "cleaver/cleaverlaw08.FsqfPowers", spec := "fsqfPowers", unfollowed := true, recurses := true, apart := false, narrowed := true }
def FsqfPowersUptoSaid : Prop := fsqfPowersUptoRow.holds Try.pinned (OpenSpec.upto fsqfPowersSpec)

/-- 'cleaverlaw08.FsqfProduct', WHERE WHAT IT READS IS OF BULK AT MOST 1048576: true; the input reads as it did. -/
def fsqfProductUptoRow : OpenClaim := { program := "ytbcapmnklgdeoaa", sum := "96a5e05b07bd51d15e800d164773b7c3e23298fbf0ea8efbe2c86603bfa423b0", func := "cleaver/cleaverlaw08.FsqfProduct", spec := "fsqfProduct", unfollowed := true, recurses := true, apart := false, narrowed := true }
def FsqfProductUptoSaid : Prop := fsqfProductUptoRow.holds Try.pinned (OpenSpec.upto fsqfProductSpec)

/-- 'cleaverlaw08.FsqfParts', WHERE WHAT IT READS IS OF BULK AT MOST 1048576: true; the input reads as it did. -/
def fsqfPartsUptoRow : OpenClaim := { program := "ytbcapmnklgdeoaa", sum := "96a5e05b07bd51d15e800d164773b7c3e23298fbf0ea8efbe2c86603bfa423b0", func := "cleaver/cleaverlaw08.FsqfParts", spec := "fsqfParts", unfollowed := true, recurses := true, apart := false, narrowed := true }
def FsqfPartsUptoSaid : Prop := fsqfPartsUptoRow.holds Try.pinned (OpenSpec.upto fsqfPartsSpec)

/-- 'cleaverlaw08.FsqfApart', WHERE WHAT IT READS IS OF BULK AT MOST 1048576: true; the input reads as it did. -/
def fsqfApartUptoRow : OpenClaim := { program := "ytbcapmnklgdeoaa", sum := "96a5e05b07bd51d15e800d164773b7c3e23298fbf0ea8efbe2c86603bfa423b0", func := "cleaver/cleaverlaw08.FsqfApart", spec := "fsqfApart", unfollowed := true, recurses := true, apart := false, narrowed := true }
def FsqfApartUptoSaid : Prop := fsqfApartUptoRow.holds Try.pinned (OpenSpec.upto fsqfApartSpec)

/-- 'cleaverlaw08.FsqfRadical', WHERE WHAT IT READS IS OF BULK AT MOST 1048576: true; the input reads as it did. -/
def fsqfRadicalUptoRow : OpenClaim := { program := "ytbcapmnklgdeoaa", sum := "96a5e05b07bd51d15e800d164773b7c3e23298fbf0ea8efbe2c86603bfa423b0", func := "cleaver/cleaverlaw08.FsqfRadical", spec := "fsqfRadical", unfollowed := true, recurses := true, apart := false, narrowed := true }
def FsqfRadicalUptoSaid : Prop := fsqfRadicalUptoRow.holds Try.pinned (OpenSpec.upto fsqfRadicalSpec)

end Rows
end Go.Proofs.Ytbcapmnklgdeoaa
