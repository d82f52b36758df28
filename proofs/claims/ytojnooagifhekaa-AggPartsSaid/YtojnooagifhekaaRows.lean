/-
  No cell of these rows narrows 'for every input' (looked for: loops, veiled, ifaces, maps, wideKeys, modest, calm, conditions, laid).
  DERIVED. THE GIVEN ROWS OF THIS SEAT. 8 by the template 'for every input the law returns true; each argument reads behind the call as it read before'; 0 by the template 'total and deterministic' (their statements: YtojnooagifhekaaTotals.lean).
  GIVEN WITH THE SEED: the statements are not yours to turn. If you find one false, say at which input.
  Laid BY PROGRAM, IN A SANDBOX (cutbox-rows.mjs): the forced cells as the released guide's own fill.sh prints them over the translation b85e0e04d045418c… (all of the seat's roots in one cut). By AI agents, Wed Nov 11 2026. No macro, syntax, notation, axiom, sorry.
-/
import Derived.Test.YtojnooagifhekaaChecked
import GoSem.Claim
import GoSem.ClaimJoined
import GoSem.ClaimMapViews
import Derived.JoinedTies
import Derived.KernelRfl
namespace Go.Proofs.Ytojnooagifhekaa
/- THE CELL 'sum', in the pinned program and in every row, IS THE sha256 OF THE DUMP (.gsa) THAT YtojnooagifhekaaProg.lean LOADS. Nothing in Lean hashes anything: it is a label: what it is worth is what the hold of that sum in a sandbox is worth. -/
noncomputable def Try.pinned : Pinned := { name := "ytojnooagifhekaa", sum := "b85e0e04d045418c302c19d7533265122d661c4838d57b5449a1df4acb9e1c04", checked := Try.checked }
namespace Rows
def none {H : Type} : Left H := { results := [], args := [] }

/-- 'heliographlaw08.AggMerges': WHATEVER THE INPUT: true; the input reads as it did. -/
def aggMergesSpec : ChangeSpec := { name := "aggMerges", fn := fun _ => fun
  | [d1, d2, d3] => { results := [.lit (.bool true)], args := [d1, d2, d3] }
  | _ => none }
def aggMergesRow : OpenClaim := { program := "ytojnooagifhekaa", sum := "b85e0e04d045418c302c19d7533265122d661c4838d57b5449a1df4acb9e1c04", func := "heliograph/heliographlaw08.AggMerges", spec := "aggMerges", inPlace := ["math/bits.Add64", "math/bits.Sub64"], named := ["math/bits.divideError", "math/bits.overflowError"], apart := false }
def AggMergesSaid : Prop := aggMergesRow.holds Try.pinned (OpenSpec.ofChange aggMergesSpec)

/-- ITS FALSE NEIGHBOUR: 'it returns false'. Refute it at one input. -/
def aggMergesWrong : ChangeSpec := { name := "aggMerges", fn := fun _ => fun
  | [d1, d2, d3] => { results := [.lit (.bool false)], args := [d1, d2, d3] }
  | _ => none }
def AggMergesWrongFalsely : Prop := aggMergesRow.holds Try.pinned (OpenSpec.ofChange aggMergesWrong)

/-- 'heliographlaw08.AggFolds': WHATEVER THE INPUT: true; the input reads as it did. -/
def aggFoldsSpec : ChangeSpec := { name := "aggFolds", fn := fun _ => fun
  | [d] => { results := [.lit (.bool true)], args := [d] }
  | _ => none }
def aggFoldsRow : OpenClaim := { program := "ytojnooagifhekaa", sum := "b85e0e04d045418c302c19d7533265122d661c4838d57b5449a1df4acb9e1c04", func := "heliograph/heliographlaw08.AggFolds", spec := "aggFolds", inPlace := ["math/bits.Add64", "math/bits.Sub64"], named := ["math/bits.divideError", "math/bits.overflowError"], apart := false }
def AggFoldsSaid : Prop := aggFoldsRow.holds Try.pinned (OpenSpec.ofChange aggFoldsSpec)

/-- ITS FALSE NEIGHBOUR: 'it returns false'. Refute it at one input. -/
def aggFoldsWrong : ChangeSpec := { name := "aggFolds", fn := fun _ => fun
  | [d] => { results := [.lit (.bool false)], args := [d] }
  | _ => none }
def AggFoldsWrongFalsely : Prop := aggFoldsRow.holds Try.pinned (OpenSpec.ofChange aggFoldsWrong)

/-- 'heliographlaw08.AggMeans': WHATEVER THE INPUT: true; the input reads as it did. -/
def aggMeansSpec : ChangeSpec := { name := "aggMeans", fn := fun _ => fun
  | [d] => { results := [.lit (.bool true)], args := [d] }
  | _ => none }
def aggMeansRow : OpenClaim := { program := "ytojnooagifhekaa", sum := "b85e0e04d045418c302c19d7533265122d661c4838d57b5449a1df4acb9e1c04", func := "heliograph/heliographlaw08.AggMeans", spec := "aggMeans", inPlace := ["math/bits.Add64", "math/bits.Sub64"], named := ["math/bits.divideError", "math/bits.overflowError"], apart := false }
def AggMeansSaid : Prop := aggMeansRow.holds Try.pinned (OpenSpec.ofChange aggMeansSpec)

/-- ITS FALSE NEIGHBOUR: 'it returns false'. Refute it at one input. -/
def aggMeansWrong : ChangeSpec := { name := "aggMeans", fn := fun _ => fun
  | [d] => { results := [.lit (.bool false)], args := [d] }
  | _ => none }
def AggMeansWrongFalsely : Prop := aggMeansRow.holds Try.pinned (OpenSpec.ofChange aggMeansWrong)

/-- 'heliographlaw08.AggAsks': WHATEVER THE INPUT: true; the input reads as it did. -/
def aggAsksSpec : ChangeSpec := { name := "aggAsks", fn := fun _ => fun
  | [d1, d2] => { results := [.lit (.bool true)], args := [d1, d2] }
  | _ => none }
def aggAsksRow : OpenClaim := { program := "ytojnooagifhekaa", sum := "b85e0e04d045418c302c19d7533265122d661c4838d57b5449a1df4acb9e1c04", func := "heliograph/heliographlaw08.AggAsks", spec := "aggAsks", inPlace := ["math/bits.Add64", "math/bits.Sub64"], named := ["math/bits.divideError", "math/bits.overflowError"], apart := false }
def AggAsksSaid : Prop := aggAsksRow.holds Try.pinned (OpenSpec.ofChange aggAsksSpec)

/-- ITS FALSE NEIGHBOUR: 'it returns false'. Refute it at one input. -/
def aggAsksWrong : ChangeSpec := { name := "aggAsks", fn := fun _ => fun
  | [d1, d2] => { results := [.lit (.bool false)], args := [d1, d2] }
  | _ => none }
def AggAsksWrongFalsely : Prop := aggAsksRow.holds Try.pinned (OpenSpec.ofChange aggAsksWrong)

/-- 'heliographlaw08.AggValues': WHATEVER THE INPUT: true; the input reads as it did. -/
def aggValuesSpec : ChangeSpec := { name := "aggValues", fn := fun _ => fun
  | [d] => { results := [.lit (.bool true)], args := [d] }
  | _ => none }
def aggValuesRow : OpenClaim := { program := "ytojnooagifhekaa", sum := "b85e0e04d045418c302c19d7533265122d661c4838d57b5449a1df4acb9e1c04", func := "heliograph/heliographlaw08.AggValues", spec := "aggValues", inPlace := ["math/bits.Add64", "math/bits.Sub64"], named := ["math/bits.divideError", "math/bits.overflowError"], apart := false }
def AggValuesSaid : Prop := aggValuesRow.holds Try.pinned (OpenSpec.ofChange aggValuesSpec)

/-- ITS FALSE NEIGHBOUR: 'it returns false'. Refute it at one input. -/
def aggValuesWrong : ChangeSpec := { name := "aggValues", fn := fun _ => fun
  | [d] => { results := [.lit (.bool false)], args := [d] }
  | _ => none }
def AggValuesWrongFalsely : Prop := aggValuesRow.holds Try.pinned (OpenSpec.ofChange aggValuesWrong)

/-- 'heliographlaw08.AggReads': WHATEVER THE INPUT: true; the input reads as it did. -/
def aggReadsSpec : ChangeSpec := { name := "aggReads", fn := fun _ => fun
  | [d] => { results := [.lit (.bool true)], args := [d] }
  | _ => none }
def aggReadsRow : OpenClaim := { program := "ytojnooagifhekaa", sum := "b85e0e04d045418c302c19d7533265122d661c4838d57b5449a1df4acb9e1c04", func := "heliograph/heliographlaw08.AggReads", spec := "aggReads", inPlace := ["math/bits.Add64", "math/bits.Sub64"], unfollowed := true, recurses := true, named := ["math/bits.divideError", "math/bits.overflowError"], apart := false }
def AggReadsSaid : Prop := aggReadsRow.holds Try.pinned (OpenSpec.ofChange aggReadsSpec)

/-- ITS FALSE NEIGHBOUR: 'it returns false'. Refute it at one input. -/
def aggReadsWrong : ChangeSpec := { name := "aggReads", fn := fun _ => fun
  | [d] => { results := [.lit (.bool false)], args := [d] }
  | _ => none }
def AggReadsWrongFalsely : Prop := aggReadsRow.holds Try.pinned (OpenSpec.ofChange aggReadsWrong)

/-- 'heliographlaw08.AggWrites': WHATEVER THE INPUT: true; the input reads as it did. -/
def aggWritesSpec : ChangeSpec := { name := "aggWrites", fn := fun _ => fun
  | [d] => { results := [.lit (.bool true)], args := [d] }
  | _ => none }
def aggWritesRow : OpenClaim := { program := "ytojnooagifhekaa", sum := "b85e0e04d045418c302c19d7533265122d661c4838d57b5449a1df4acb9e1c04", func := "heliograph/heliographlaw08.AggWrites", spec := "aggWrites", inPlace := ["math/bits.Add64", "math/bits.Sub64", "internal/abi.NoEscape"], unfollowed := true, recurses := true, named := ["math/bits.divideError", "math/bits.overflowError"], apart := false }
def AggWritesSaid : Prop := aggWritesRow.holds Try.pinned (OpenSpec.ofChange aggWritesSpec)

/-- ITS FALSE NEIGHBOUR: 'it returns false'. Refute it at one input. -/
def aggWritesWrong : ChangeSpec := { name := "aggWrites", fn := fun _ => fun
  | [d] => { results := [.lit (.bool false)], args := [d] }
  | _ => none }
def AggWritesWrongFalsely : Prop := aggWritesRow.holds Try.pinned (OpenSpec.ofChange aggWritesWrong)

/-- 'heliographlaw08.AggParts': WHATEVER THE INPUT: true; the input reads as it did. -/
def aggPartsSpec : ChangeSpec := { name := "aggParts", fn := fun _ => fun
  | [d1, d2] => { results := [.lit (.bool true)], args := [d1, d2] }
  | _ => none }
def aggPartsRow : OpenClaim := { program := "ytojnooagifhekaa", sum := "b85e0e04d045418c302c19d7533265122d661c4838d57b5449a1df4acb9e1c04", func := "heliograph/heliographlaw08.AggParts", spec := "aggParts", inPlace := ["math/bits.Add64", "math/bits.Sub64", "internal/abi.NoEscape"], unfollowed := true, recurses := true, named := ["math/bits.divideError", "math/bits.overflowError"], apart := false }
def AggPartsSaid : Prop := aggPartsRow.holds Try.pinned (OpenSpec.ofChange aggPartsSpec)

/-- ITS FALSE NEIGHBOUR: 'it returns false'. Refute it at one input. -/
def aggPartsWrong : ChangeSpec := { name := "aggParts", fn := fun _ => fun
  | [d1, d2] => { results := [.lit (.bool false)], args := [d1, d2] }
  | _ => none }
def AggPartsWrongFalsely : Prop := aggPartsRow.holds Try.pinned (OpenSpec.ofChange aggPartsWrong)

/- THE SECOND FORM. 'bulk': how many values and letters a reading holds, each counted each time it is reached (what is shared counts as often as it is met; a slice's spare places count too). A statement '..UptoSaid' is the law's where the arguments, and the package variables that the reading takes, are together of bulk at most 1048576: NARROWER than '..Said'. Prove '..Said' where nothing that the law and all that it calls make is longer than what came in: it says more and counts as full. Else prove '..UptoSaid'. A law counts once. -/
mutual
def uptoBulk {H : Type} : DataW H → Nat
  | .lit (.string bytes) => bytes.length + 1
  | .lit _ => 1
  | .nil => 1
  | .ptr d => uptoBulk d + 1
  | .slice elems spare => uptoBulkAll elems + uptoBulkAll spare + 1
  | .agg parts => uptoBulkAll parts + 1
  | .iface _ d => uptoBulk d + 1
  | .map entries => uptoBulkEntries entries + 1
  | .held _ => 1
def uptoBulkAll {H : Type} : List (DataW H) → Nat
  | [] => 0
  | d :: r => uptoBulk d + uptoBulkAll r
def uptoBulkEntries {H : Type} : List (Lit × DataW H) → Nat
  | [] => 0
  | x :: r => uptoBulkEntry x + uptoBulkEntries r
def uptoBulkEntry {H : Type} : Lit × DataW H → Nat
  | (.string bytes, d) => bytes.length + uptoBulk d + 1
  | (_, d) => uptoBulk d + 1
 end
def uptoSmall : (H : Type) → List (DataW H) → Bool := fun _ ds => decide (uptoBulkAll ds ≤ 1048576)
def OpenSpec.upto (s : _root_.Go.ChangeSpec) : _root_.Go.OpenSpec := { _root_.Go.OpenSpec.ofChange s with cond := some uptoSmall }

/-- 'heliographlaw08.AggMerges', WHERE WHAT IT READS IS OF BULK AT MOST 1048576: true; the input reads as it did. -/
def aggMergesUptoRow : OpenClaim := { program := "ytojnooagifhekaa", sum := "b85e0e04d045418c302c19d7533265122d661c4838d57b5449a1df4acb9e1c04", func := "heliograph/heliographlaw08.AggMerges", spec := "aggMerges", inPlace := ["math/bits.Add64", "math/bits.Sub64"], named := ["math/bits.divideError", "math/bits.overflowError"], apart := false, narrowed := true }
def AggMergesUptoSaid : Prop := aggMergesUptoRow.holds Try.pinned (OpenSpec.upto aggMergesSpec)

/-- 'heliographlaw08.AggFolds', WHERE WHAT IT READS IS OF BULK AT MOST 1048576: true; the input reads as it did. -/
def aggFoldsUptoRow : OpenClaim := { program := "ytojnooagifhekaa", sum := "b85e0e04d045418c302c19d7533265122d661c4838d57b5449a1df4acb9e1c04", func := "heliograph/heliographlaw08.AggFolds", spec := "aggFolds", inPlace := ["math/bits.Add64", "math/bits.Sub64"], named := ["math/bits.divideError", "math/bits.overflowError"], apart := false, narrowed := true }
def AggFoldsUptoSaid : Prop := aggFoldsUptoRow.holds Try.pinned (OpenSpec.upto aggFoldsSpec)

/-- 'heliographlaw08.AggMeans', WHERE WHAT IT READS IS OF BULK AT MOST 1048576: true; the input reads as it did. -/
def aggMeansUptoRow : OpenClaim := { program := "ytojnooagifhekaa", sum := "b85e0e04d045418c302c19d7533265122d661c4838d57b5449a1df4acb9e1c04", func := "heliograph/heliographlaw08.AggMeans", spec := "aggMeans", inPlace := ["math/bits.Add64", "math/bits.Sub64"], named := ["math/bits.divideError", "math/bits.overflowError"], apart := false, narrowed := true }
def AggMeansUptoSaid : Prop := aggMeansUptoRow.holds Try.pinned (OpenSpec.upto aggMeansSpec)

/-- 'heliographlaw08.AggAsks', WHERE WHAT IT READS IS OF BULK AT MOST 1048576: true; the input reads as it did. -/
def aggAsksUptoRow : OpenClaim := { program := "ytojnooagifhekaa", sum := "b85e0e04d045418c302c19d7533265122d661c4838d57b5449a1df4acb9e1c04", func := "heliograph/heliographlaw08.AggAsks", spec := "aggAsks", inPlace := ["math/bits.Add64", "math/bits.Sub64"], named := ["math/bits.divideError", "math/bits.overflowError"], apart := false, narrowed := true }
def AggAsksUptoSaid : Prop := aggAsksUptoRow.holds Try.pinned (OpenSpec.upto aggAsksSpec)

/-- 'heliographlaw08.AggValues', WHERE WHAT IT READS IS OF BULK AT MOST 1048576: true; the input reads as it did. -/
def aggValuesUptoRow : OpenClaim := { program := "ytojnooagifhekaa", sum := "b85e0e04d045418c302c19d7533265122d661c4838d57b5449a1df4acb9e1c04", func := "heliograph/heliographlaw08.AggValues", spec := "aggValues", inPlace := ["math/bits.Add64", "math/bits.Sub64"], named := ["math/bits.divideError", "math/bits.overflowError"], apart := false, narrowed := true }
def AggValuesUptoSaid : Prop := aggValuesUptoRow.holds Try.pinned (OpenSpec.upto aggValuesSpec)

/-- 'heliographlaw08.AggReads', WHERE WHAT IT READS IS OF BULK AT MOST 1048576: true; the input reads as it did. -/
def aggReadsUptoRow : OpenClaim := { program := "ytojnooagifhekaa", sum := "b85e0e04d045418c302c19d7533265122d661c4838d57b5449a1df4acb9e1c04", func := "heliograph/heliographlaw08.AggReads", spec := "aggReads", inPlace := ["math/bits.Add64", "math/bits.Sub64"], unfollowed := true, recurses := true, named := ["math/bits.divideError", "math/bits.overflowError"], apart := false, narrowed := true }
def AggReadsUptoSaid : Prop := aggReadsUptoRow.holds Try.pinned (OpenSpec.upto aggReadsSpec)

/-- 'heliographlaw08.AggWrites', WHERE WHAT IT READS IS OF BULK AT MOST 1048576: true; the input reads as it did. -/
def aggWritesUptoRow : OpenClaim := { program := "ytojnooagifhekaa", sum := "b85e0e04d045418c302c19d7533265122d661c4838d57b5449a1df4acb9e1c04", func := "heliograph/heliographlaw08.AggWrites", spec := "aggWrites", inPlace := ["math/bits.Add64", "math/bits.Sub64", "internal/abi.NoEscape"], unfollowed := true, recurses := true, named := ["math/bits.divideError", "math/bits.overflowError"], apart := false, narrowed := true }
def AggWritesUptoSaid : Prop := aggWritesUptoRow.holds Try.pinned (OpenSpec.upto aggWritesSpec)

/-- 'heliographlaw08.AggParts', WHERE WHAT IT READS IS OF BULK AT MOST 1048576: true; the input reads as it did. -/
def aggPartsUptoRow : OpenClaim := { program := "ytojnooagifhekaa", sum := "b85e0e04d045418c302c19d7533265122d661c4838d57b5449a1df4acb9e1c04", func := "heliograph/heliographlaw08.AggParts", spec := "aggParts", inPlace := ["math/bits.Add64", "math/bits.Sub64", "internal/abi.NoEscape"], unfollowed := true, recurses := true, named := ["math/bits.divideError", "math/bits.overflowError"], apart := false, narrowed := true }
def AggPartsUptoSaid : Prop := aggPartsUptoRow.holds Try.pinned (OpenSpec.upto aggPartsSpec)

end Rows
end Go.Proofs.Ytojnooagifhekaa
