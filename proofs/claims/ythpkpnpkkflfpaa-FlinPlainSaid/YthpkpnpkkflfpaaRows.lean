/-
  No cell of these rows narrows 'for every input' (looked for: loops, veiled, ifaces, maps, wideKeys, modest, calm, conditions, laid).
  DERIVED. THE GIVEN ROWS OF THIS SEAT. 11 by the template 'for every input the law returns true; each argument reads behind the call as it read before'; 0 by the template 'total and deterministic' (their statements: YthpkpnpkkflfpaaTotals.lean).
  GIVEN WITH THE SEED: the statements are not yours to turn. If you find one false, say at which input.
  Laid BY PROGRAM, IN A SANDBOX (cutbox-rows.mjs): the forced cells as the released guide's own fill.sh prints them over the translation 66f3b102b49f1a3e… (all of the seat's roots in one cut). By AI agents, Wed Nov 11 2026. No macro, syntax, notation, axiom, sorry.
-/
import Derived.Test.YthpkpnpkkflfpaaChecked
import GoSem.Claim
import GoSem.ClaimJoined
import GoSem.ClaimMapViews
import Derived.JoinedTies
import Derived.KernelRfl
namespace Go.Proofs.Ythpkpnpkkflfpaa
/- THE CELL 'sum', in the pinned program and in every row, IS THE sha256 OF THE DUMP (.gsa) THAT YthpkpnpkkflfpaaProg.lean LOADS. Nothing in Lean hashes anything: it is a label: what it is worth is what the hold of that sum in a sandbox is worth. -/
noncomputable def Try.pinned : Pinned := { name := "ythpkpnpkkflfpaa", sum := "66f3b102b49f1a3e7b3799d0ce296239ababcc33629718518f531e7511e79854", checked := Try.checked }
namespace Rows
def none {H : Type} : Left H := { results := [], args := [] }

/-- 'cleaverlaw05.FpRest': WHATEVER THE INPUT: true; the input reads as it did. -/
def fpRestSpec : ChangeSpec := { name := "fpRest", fn := fun _ => fun
  | [d1, d2] => { results := [.lit (.bool true)], args := [d1, d2] }
  | _ => none }
def fpRestRow : OpenClaim := { program := "ythpkpnpkkflfpaa", sum := "66f3b102b49f1a3e7b3799d0ce296239ababcc33629718518f531e7511e79854", func := "cleaver/cleaverlaw05.FpRest", spec := "fpRest", apart := false }
def FpRestSaid : Prop := fpRestRow.holds Try.pinned (OpenSpec.ofChange fpRestSpec)

/-- ITS FALSE NEIGHBOUR: 'it returns false'. Refute it at one input. -/
def fpRestWrong : ChangeSpec := { name := "fpRest", fn := fun _ => fun
  | [d1, d2] => { results := [.lit (.bool false)], args := [d1, d2] }
  | _ => none }
def FpRestWrongFalsely : Prop := fpRestRow.holds Try.pinned (OpenSpec.ofChange fpRestWrong)

/-- 'cleaverlaw05.FpPowers': WHATEVER THE INPUT: true; the input reads as it did. -/
def fpPowersSpec : ChangeSpec := { name := "fpPowers", fn := fun _ => fun
  | [d1, d2, d3, d4] => { results := [.lit (.bool true)], args := [d1, d2, d3, d4] }
  | _ => none }
def fpPowersRow : OpenClaim := { program := "ythpkpnpkkflfpaa", sum := "66f3b102b49f1a3e7b3799d0ce296239ababcc33629718518f531e7511e79854", func := "cleaver/cleaverlaw05.FpPowers", spec := "fpPowers", apart := false }
def FpPowersSaid : Prop := fpPowersRow.holds Try.pinned (OpenSpec.ofChange fpPowersSpec)

/-- ITS FALSE NEIGHBOUR: 'it returns false'. Refute it at one input. -/
def fpPowersWrong : ChangeSpec := { name := "fpPowers", fn := fun _ => fun
  | [d1, d2, d3, d4] => { results := [.lit (.bool false)], args := [d1, d2, d3, d4] }
  | _ => none }
def FpPowersWrongFalsely : Prop := fpPowersRow.holds Try.pinned (OpenSpec.ofChange fpPowersWrong)

/-- 'cleaverlaw05.FpDivides': WHATEVER THE INPUT: true; the input reads as it did. -/
def fpDividesSpec : ChangeSpec := { name := "fpDivides", fn := fun _ => fun
  | [d1, d2, d3, d4] => { results := [.lit (.bool true)], args := [d1, d2, d3, d4] }
  | _ => none }
def fpDividesRow : OpenClaim := { program := "ythpkpnpkkflfpaa", sum := "66f3b102b49f1a3e7b3799d0ce296239ababcc33629718518f531e7511e79854", func := "cleaver/cleaverlaw05.FpDivides", spec := "fpDivides", apart := false }
def FpDividesSaid : Prop := fpDividesRow.holds Try.pinned (OpenSpec.ofChange fpDividesSpec)

/-- ITS FALSE NEIGHBOUR: 'it returns false'. Refute it at one input. -/
def fpDividesWrong : ChangeSpec := { name := "fpDivides", fn := fun _ => fun
  | [d1, d2, d3, d4] => { results := [.lit (.bool false)], args := [d1, d2, d3, d4] }
  | _ => none }
def FpDividesWrongFalsely : Prop := fpDividesRow.holds Try.pinned (OpenSpec.ofChange fpDividesWrong)

/-- 'cleaverlaw05.FpAdds': WHATEVER THE INPUT: true; the input reads as it did. -/
def fpAddsSpec : ChangeSpec := { name := "fpAdds", fn := fun _ => fun
  | [d1, d2, d3] => { results := [.lit (.bool true)], args := [d1, d2, d3] }
  | _ => none }
def fpAddsRow : OpenClaim := { program := "ythpkpnpkkflfpaa", sum := "66f3b102b49f1a3e7b3799d0ce296239ababcc33629718518f531e7511e79854", func := "cleaver/cleaverlaw05.FpAdds", spec := "fpAdds", apart := false }
def FpAddsSaid : Prop := fpAddsRow.holds Try.pinned (OpenSpec.ofChange fpAddsSpec)

/-- ITS FALSE NEIGHBOUR: 'it returns false'. Refute it at one input. -/
def fpAddsWrong : ChangeSpec := { name := "fpAdds", fn := fun _ => fun
  | [d1, d2, d3] => { results := [.lit (.bool false)], args := [d1, d2, d3] }
  | _ => none }
def FpAddsWrongFalsely : Prop := fpAddsRow.holds Try.pinned (OpenSpec.ofChange fpAddsWrong)

/-- 'cleaverlaw05.FpField': WHATEVER THE INPUT: true; the input reads as it did. -/
def fpFieldSpec : ChangeSpec := { name := "fpField", fn := fun _ => fun
  | [d1, d2, d3, d4] => { results := [.lit (.bool true)], args := [d1, d2, d3, d4] }
  | _ => none }
def fpFieldRow : OpenClaim := { program := "ythpkpnpkkflfpaa", sum := "66f3b102b49f1a3e7b3799d0ce296239ababcc33629718518f531e7511e79854", func := "cleaver/cleaverlaw05.FpField", spec := "fpField", apart := false }
def FpFieldSaid : Prop := fpFieldRow.holds Try.pinned (OpenSpec.ofChange fpFieldSpec)

/-- ITS FALSE NEIGHBOUR: 'it returns false'. Refute it at one input. -/
def fpFieldWrong : ChangeSpec := { name := "fpField", fn := fun _ => fun
  | [d1, d2, d3, d4] => { results := [.lit (.bool false)], args := [d1, d2, d3, d4] }
  | _ => none }
def FpFieldWrongFalsely : Prop := fpFieldRow.holds Try.pinned (OpenSpec.ofChange fpFieldWrong)

/-- 'cleaverlaw07.FlinRows': WHATEVER THE INPUT: true; the input reads as it did. -/
def flinRowsSpec : ChangeSpec := { name := "flinRows", fn := fun _ => fun
  | [d1, d2] => { results := [.lit (.bool true)], args := [d1, d2] }
  | _ => none }
def flinRowsRow : OpenClaim := { program := "ythpkpnpkkflfpaa", sum := "66f3b102b49f1a3e7b3799d0ce296239ababcc33629718518f531e7511e79854", func := "cleaver/cleaverlaw07.FlinRows", spec := "flinRows", unfollowed := true, recurses := true, apart := false }
def FlinRowsSaid : Prop := flinRowsRow.holds Try.pinned (OpenSpec.ofChange flinRowsSpec)

/-- ITS FALSE NEIGHBOUR: 'it returns false'. Refute it at one input. -/
def flinRowsWrong : ChangeSpec := { name := "flinRows", fn := fun _ => fun
  | [d1, d2] => { results := [.lit (.bool false)], args := [d1, d2] }
  | _ => none }
def FlinRowsWrongFalsely : Prop := flinRowsRow.holds Try.pinned (OpenSpec.ofChange flinRowsWrong)

/-- 'cleaverlaw07.FlinNulls': WHATEVER THE INPUT: true; the input reads as it did. -/
def flinNullsSpec : ChangeSpec := { name := "flinNulls", fn := fun _ => fun
  | [d1, d2, d3] => { results := [.lit (.bool true)], args := [d1, d2, d3] }
  | _ => none }
def flinNullsRow : OpenClaim := { program := "ythpkpnpkkflfpaa", sum := "66f3b102b49f1a3e7b3799d0ce296239ababcc33629718518f531e7511e79854", func := "cleaver/cleaverlaw07.FlinNulls", spec := "flinNulls", unfollowed := true, recurses := true, apart := false }
def FlinNullsSaid : Prop := flinNullsRow.holds Try.pinned (OpenSpec.ofChange flinNullsSpec)

/-- ITS FALSE NEIGHBOUR: 'it returns false'. Refute it at one input. -/
def flinNullsWrong : ChangeSpec := { name := "flinNulls", fn := fun _ => fun
  | [d1, d2, d3] => { results := [.lit (.bool false)], args := [d1, d2, d3] }
  | _ => none }
def FlinNullsWrongFalsely : Prop := flinNullsRow.holds Try.pinned (OpenSpec.ofChange flinNullsWrong)

/-- 'cleaverlaw07.FlinPlain': WHATEVER THE INPUT: true; the input reads as it did. -/
def flinPlainSpec : ChangeSpec := { name := "flinPlain", fn := fun _ => fun
  | [d1, d2] => { results := [.lit (.bool true)], args := [d1, d2] }
  | _ => none }
def flinPlainRow : OpenClaim := { program := "ythpkpnpkkflfpaa", sum := "66f3b102b49f1a3e7b3799d0ce296239ababcc33629718518f531e7511e79854", func := "cleaver/cleaverlaw07.FlinPlain", spec := "flinPlain", unfollowed := true, recurses := true, apart := false }
def FlinPlainSaid : Prop := flinPlainRow.holds Try.pinned (OpenSpec.ofChange flinPlainSpec)

/-- ITS FALSE NEIGHBOUR: 'it returns false'. Refute it at one input. -/
def flinPlainWrong : ChangeSpec := { name := "flinPlain", fn := fun _ => fun
  | [d1, d2] => { results := [.lit (.bool false)], args := [d1, d2] }
  | _ => none }
def FlinPlainWrongFalsely : Prop := flinPlainRow.holds Try.pinned (OpenSpec.ofChange flinPlainWrong)

/-- 'cleaverlaw07.FlinApplies': WHATEVER THE INPUT: true; the input reads as it did. -/
def flinAppliesSpec : ChangeSpec := { name := "flinApplies", fn := fun _ => fun
  | [d1, d2, d3] => { results := [.lit (.bool true)], args := [d1, d2, d3] }
  | _ => none }
def flinAppliesRow : OpenClaim := { program := "ythpkpnpkkflfpaa", sum := "66f3b102b49f1a3e7b3799d0ce296239ababcc33629718518f531e7511e79854", func := "cleaver/cleaverlaw07.FlinApplies", spec := "flinApplies", unfollowed := true, recurses := true, apart := false }
def FlinAppliesSaid : Prop := flinAppliesRow.holds Try.pinned (OpenSpec.ofChange flinAppliesSpec)

/-- ITS FALSE NEIGHBOUR: 'it returns false'. Refute it at one input. -/
def flinAppliesWrong : ChangeSpec := { name := "flinApplies", fn := fun _ => fun
  | [d1, d2, d3] => { results := [.lit (.bool false)], args := [d1, d2, d3] }
  | _ => none }
def FlinAppliesWrongFalsely : Prop := flinAppliesRow.holds Try.pinned (OpenSpec.ofChange flinAppliesWrong)

/-- 'cleaverlaw07.FlinCounts': WHATEVER THE INPUT: true; the input reads as it did. -/
def flinCountsSpec : ChangeSpec := { name := "flinCounts", fn := fun _ => fun
  | [d1, d2, d3] => { results := [.lit (.bool true)], args := [d1, d2, d3] }
  | _ => none }
def flinCountsRow : OpenClaim := { program := "ythpkpnpkkflfpaa", sum := "66f3b102b49f1a3e7b3799d0ce296239ababcc33629718518f531e7511e79854", func := "cleaver/cleaverlaw07.FlinCounts", spec := "flinCounts", unfollowed := true, recurses := true, apart := false }
def FlinCountsSaid : Prop := flinCountsRow.holds Try.pinned (OpenSpec.ofChange flinCountsSpec)

/-- ITS FALSE NEIGHBOUR: 'it returns false'. Refute it at one input. -/
def flinCountsWrong : ChangeSpec := { name := "flinCounts", fn := fun _ => fun
  | [d1, d2, d3] => { results := [.lit (.bool false)], args := [d1, d2, d3] }
  | _ => none }
def FlinCountsWrongFalsely : Prop := flinCountsRow.holds Try.pinned (OpenSpec.ofChange flinCountsWrong)

/-- 'cleaverlaw07.FlinLinear': WHATEVER THE INPUT: true; the input reads as it did. -/
def flinLinearSpec : ChangeSpec := { name := "flinLinear", fn := fun _ => fun
  | [d1, d2, d3, d4, d5] => { results := [.lit (.bool true)], args := [d1, d2, d3, d4, d5] }
  | _ => none }
def flinLinearRow : OpenClaim := { program := "ythpkpnpkkflfpaa", sum := "66f3b102b49f1a3e7b3799d0ce296239ababcc33629718518f531e7511e79854", func := "cleaver/cleaverlaw07.FlinLinear", spec := "flinLinear", unfollowed := true, recurses := true, apart := false }
def FlinLinearSaid : Prop := flinLinearRow.holds Try.pinned (OpenSpec.ofChange flinLinearSpec)

/-- ITS FALSE NEIGHBOUR: 'it returns false'. Refute it at one input. -/
def flinLinearWrong : ChangeSpec := { name := "flinLinear", fn := fun _ => fun
  | [d1, d2, d3, d4, d5] => { results := [.lit (.bool false)], args := [d1, d2, d3, d4, d5] }
  | _ => none }
def FlinLinearWrongFalsely : Prop := flinLinearRow.holds Try.pinned (OpenSpec.ofChange flinLinearWrong)

/- THE SECOND FORM. 'bulk': how many values and letters a reading holds, each counted each time it is reached (what is shared counts as often as it is met; a slice's spare places count too). A statement '..UptoSaid' is the law's where the arguments, and the package variables that the reading takes, are together of bulk at most 1048576: NARROWER than '..Said'. Prove '..Said' where nothing that the law and all that it calls make is longer than what came in: it says more and counts as full. Else prove '..UptoSaid'. A law counts once. -/
mutual
def uptoBulk {H : Type} : DataW H → Nat
  | .lit (.string bytes) => bytes.length + 1
  | .lit _ => 1
  | .nil => 1
  | .ptr d => uptoBulk d + 1
  | .slice elems spare => uptoBulkAll elems + uptoBulkAll spare + 1
  | .agg parts => uptoBulkAll parts + 1
  | .iface _ d => uptoBulk d + 1
  | .map entries => uptoBulkEntries entries + 1
  | .held _ => 1
def uptoBulkAll {H : Type} : List (DataW H) → Nat
  | [] => 0
  | d :: r => uptoBulk d + uptoBulkAll r
def uptoBulkEntries {H : Type} : List (Lit × DataW H) → Nat
  | [] => 0
  | x :: r => uptoBulkEntry x + uptoBulkEntries r
def uptoBulkEntry {H : Type} : Lit × DataW H → Nat
  | (.string bytes, d) => bytes.length + uptoBulk d + 1
  | (_, d) => uptoBulk d + 1
 end
def uptoSmall : (H : Type) → List (DataW H) → Bool := fun _ ds => decide (uptoBulkAll ds ≤ 1048576)
def OpenSpec.upto (s : _root_.Go.ChangeSpec) : _root_.Go.OpenSpec := { _root_.Go.OpenSpec.ofChange s with cond := some uptoSmall }

/-- 'cleaverlaw05.FpRest', WHERE WHAT IT READS IS OF BULK AT MOST 1048576: true; the input reads as it did. -/
def fpRestUptoRow : OpenClaim := { program := "ythpkpnpkkflfpaa", sum := "66f3b102b49f1a3e7b3799d0ce296239ababcc33629718518f531e7511e79854", func := "cleaver/cleaverlaw05.FpRest", spec := "fpRest", apart := false, narrowed := true }
def FpRestUptoSaid : Prop := fpRestUptoRow.holds Try.pinned (OpenSpec.upto fpRestSpec)

/-- 'cleaverlaw05.FpPowers', WHERE WHAT IT READS IS OF BULK AT MOST 1048576: true; the input reads as it did. -/
def fpPowersUptoRow : OpenClaim := { program := "ythpkpnpkkflfpaa", sum := "66f3b102b49f1a3e7b3799d0ce296239ababcc33629718518f531e7511e79854", func := "cleaver/cleaverlaw05.FpPowers", spec := "fpPowers", apart := false, narrowed := true }
def FpPowersUptoSaid : Prop := fpPowersUptoRow.holds Try.pinned (OpenSpec.upto fpPowersSpec)

/-- 'cleaverlaw05.FpDivides', WHERE WHAT IT READS IS OF BULK AT MOST 1048576: true; the input reads as it did. -/
def fpDividesUptoRow : OpenClaim := { program := "ythpkpnpkkflfpaa", sum := "66f3b102b49f1a3e7b3799d0ce296239ababcc33629718518f531e7511e79854", func := "cleaver/cleaverlaw05.FpDivides", spec := "fpDivides", apart := false, narrowed := true }
def FpDividesUptoSaid : Prop := fpDividesUptoRow.holds Try.pinned (OpenSpec.upto fpDividesSpec)

/-- 'cleaverlaw05.FpAdds', WHERE WHAT IT READS IS OF BULK AT MOST 1048576: true; the input reads as it did. -/
def fpAddsUptoRow : OpenClaim := { program := "ythpkpnpkkflfpaa", sum := "66f3b102b49f1a3e7b3799d0ce296239ababcc33629718518f531e7511e79854", func := "cleaver/cleaverlaw05.FpAdds", spec := "fpAdds", apart := false, narrowed := true }
def FpAddsUptoSaid : Prop := fpAddsUptoRow.holds Try.pinned (OpenSpec.upto fpAddsSpec)

/-- 'cleaverlaw05.FpField', WHERE WHAT IT READS IS OF BULK AT MOST 1048576: true; the input reads as it did. -/
def fpFieldUptoRow : OpenClaim := { program := "ythpkpnpkkflfpaa", sum := "66f3b102b49f1a3e7b3799d0ce296239ababcc33629718518f531e7511e79854", func := "cleaver/cleaverlaw05.FpField", spec := "fpField", apart := false, narrowed := true }
def FpFieldUptoSaid : Prop := fpFieldUptoRow.holds Try.pinned (OpenSpec.upto fpFieldSpec)

/-- 'cleaverlaw07.FlinRows', WHERE WHAT IT READS IS OF BULK AT MOST 1048576: true; the input reads as it did. -/
def flinRowsUptoRow : OpenClaim := { program := "ythpkpnpkkflfpaa", sum := "66f3b102b49f1a3e7b3799d0ce296239ababcc33629718518f531e7511e79854", func := "cleaver/cleaverlaw07.FlinRows", spec := "flinRows", unfollowed := true, recurses := true, apart := false, narrowed := true }
def FlinRowsUptoSaid : Prop := flinRowsUptoRow.holds Try.pinned (OpenSpec.upto flinRowsSpec)

/-- 'cleaverlaw07.FlinNulls', WHERE WHAT IT READS IS OF BULK AT MOST 1048576: true; the input reads as it did. -/
def flinNullsUptoRow : OpenClaim := { program := "ythpkpnpkkflfpaa", sum := "66f3b102b49f1a3e7b3799d0ce296239ababcc33629718518f531e7511e79854", func := "cleaver/cleaverlaw07.FlinNulls", spec := "flinNulls", unfollowed := true, recurses := true, apart := false, narrowed := true }
def FlinNullsUptoSaid : Prop := flinNullsUptoRow.holds Try.pinned (OpenSpec.upto flinNullsSpec)

/-- 'cleaverlaw07.FlinPlain', WHERE WHAT IT READS IS OF BULK AT MOST 1048576: true; the input reads as it did. -/
def flinPlainUptoRow : OpenClaim := { program := "ythpkpnpkkflfpaa", sum := "66f3b102b49f1a3e7b3799d0ce296239ababcc33629718518f531e7511e79854", func := "cleaver/cleaverlaw07.FlinPlain", spec := "flinPlain", unfollowed := true, recurses := true, apart := false, narrowed := true }
def FlinPlainUptoSaid : Prop := flinPlainUptoRow.holds Try.pinned (OpenSpec.upto flinPlainSpec)

/-- 'cleaverlaw07.FlinApplies', WHERE WHAT IT READS IS OF BULK AT MOST 1048576: true; the input reads as it did. -/
def flinAppliesUptoRow : OpenClaim := { program := "ythpkpnpkkflfpaa", sum := "66f3b102b49f1a3e7b3799d0ce296239ababcc33629718518f531e7511e79854", func := "cleaver/cleaverlaw07.FlinApplies", spec := "flinApplies", unfollowed := true, recurses := true, apart := false, narrowed := true }
def FlinAppliesUptoSaid : Prop := flinAppliesUptoRow.holds Try.pinned (OpenSpec.upto flinAppliesSpec)

/-- 'cleaverlaw07.FlinCounts', WHERE WHAT IT READS IS OF BULK AT MOST 1048576: true; the input reads as it did. -/
def flinCountsUptoRow : OpenClaim := { program := "ythpkpnpkkflfpaa", sum := "66f3b102b49f1a3e7b3799d0ce296239ababcc33629718518f531e7511e79854", func := "cleaver/cleaverlaw07.FlinCounts", spec := "flinCounts", unfollowed := true, recurses := true, apart := false, narrowed := true }
def FlinCountsUptoSaid : Prop := flinCountsUptoRow.holds Try.pinned (OpenSpec.upto flinCountsSpec)

/-- 'cleaverlaw07.FlinLinear', WHERE WHAT IT READS IS OF BULK AT MOST 1048576: true; the input reads as it did. -/
def flinLinearUptoRow : OpenClaim := { program := "ythpkpnpkkflfpaa", sum := "66f3b102b49f1a3e7b3799d0ce296239ababcc33629718518f531e7511e79854", func := "cleaver/cleaverlaw07.FlinLinear", spec := "flinLinear", unfollowed := true, recurses := true, apart := false, narrowed := true }
def FlinLinearUptoSaid : Prop := flinLinearUptoRow.holds Try.pinned (OpenSpec.upto flinLinearSpec)

end Rows
end Go.Proofs.Ythpkpnpkkflfpaa
