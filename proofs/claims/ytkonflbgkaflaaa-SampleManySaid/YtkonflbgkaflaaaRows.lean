/-
  No cell of these rows narrows 'for every input' (looked for: loops, veiled, ifaces, maps, wideKeys, modest, calm, conditions, laid).
  DERIVED. THE GIVEN ROWS OF THIS SEAT. 6 by the template 'for every input the law returns true; each argument reads behind the call as it read before'; 0 by the template 'total and deterministic' (their statements: YtkonflbgkaflaaaTotals.lean).
  GIVEN WITH THE SEED: the statements are not yours to turn. If you find one false, say at which input.
  Laid BY PROGRAM, IN A SANDBOX (cutbox-rows.mjs): the forced cells as the released guide's own fill.sh prints them over the translation 2469d036b7540f7f… (all of the seat's roots in one cut). By AI agents, Wed Nov 11 2026. No macro, syntax, notation, axiom, sorry.
-/
import Derived.Test.YtkonflbgkaflaaaChecked
import GoSem.Claim
import GoSem.ClaimJoined
import GoSem.ClaimMapViews
import Derived.JoinedTies
import Derived.KernelRfl
namespace Go.Proofs.Ytkonflbgkaflaaa
/- THE CELL 'sum', in the pinned program and in every row, IS THE sha256 OF THE DUMP (.gsa) THAT YtkonflbgkaflaaaProg.lean LOADS. Nothing in Lean hashes anything: it is a label: what it is worth is what the hold of that sum in a sandbox is worth. -/
noncomputable def Try.pinned : Pinned := { name := "ytkonflbgkaflaaa", sum := "2469d036b7540f7fc3d004864e0f9a8f7c2fec4d9e4dc8f882aa4404b06d6331", checked := Try.checked }
namespace Rows
def none {H : Type} : Left H := { results := [], args := [] }

/-- 'heliographlaw06.SampleRecords': WHATEVER THE INPUT: true; the input reads as it did. -/
def sampleRecordsSpec : ChangeSpec := { name := "sampleRecords", fn := fun _ => fun
  | [d1, d2] => { results := [.lit (.bool true)], args := [d1, d2] }
  | _ => none }
def sampleRecordsRow : OpenClaim := { program := "ytkonflbgkaflaaa", sum := "2469d036b7540f7fc3d004864e0f9a8f7c2fec4d9e4dc8f882aa4404b06d6331", func := "heliograph/heliographlaw06.SampleRecords", spec := "sampleRecords", inPlace := ["internal/abi.NoEscape"], apart := false }
def SampleRecordsSaid : Prop := sampleRecordsRow.holds Try.pinned (OpenSpec.ofChange sampleRecordsSpec)

/-- ITS FALSE NEIGHBOUR: 'it returns false'. Refute it at one input. -/
def sampleRecordsWrong : ChangeSpec := { name := "sampleRecords", fn := fun _ => fun
  | [d1, d2] => { results := [.lit (.bool false)], args := [d1, d2] }
  | _ => none }
def SampleRecordsWrongFalsely : Prop := sampleRecordsRow.holds Try.pinned (OpenSpec.ofChange sampleRecordsWrong)

/-- 'heliographlaw06.SampleOrder': WHATEVER THE INPUT: true; the input reads as it did. -/
def sampleOrderSpec : ChangeSpec := { name := "sampleOrder", fn := fun _ => fun
  | [d1, d2, d3] => { results := [.lit (.bool true)], args := [d1, d2, d3] }
  | _ => none }
def sampleOrderRow : OpenClaim := { program := "ytkonflbgkaflaaa", sum := "2469d036b7540f7fc3d004864e0f9a8f7c2fec4d9e4dc8f882aa4404b06d6331", func := "heliograph/heliographlaw06.SampleOrder", spec := "sampleOrder", inPlace := ["internal/abi.NoEscape"], apart := false }
def SampleOrderSaid : Prop := sampleOrderRow.holds Try.pinned (OpenSpec.ofChange sampleOrderSpec)

/-- ITS FALSE NEIGHBOUR: 'it returns false'. Refute it at one input. -/
def sampleOrderWrong : ChangeSpec := { name := "sampleOrder", fn := fun _ => fun
  | [d1, d2, d3] => { results := [.lit (.bool false)], args := [d1, d2, d3] }
  | _ => none }
def SampleOrderWrongFalsely : Prop := sampleOrderRow.holds Try.pinned (OpenSpec.ofChange sampleOrderWrong)

/-- 'heliographlaw06.SamplePoints': WHATEVER THE INPUT: true; the input reads as it did. -/
def samplePointsSpec : ChangeSpec := { name := "samplePoints", fn := fun _ => fun
  | [d] => { results := [.lit (.bool true)], args := [d] }
  | _ => none }
def samplePointsRow : OpenClaim := { program := "ytkonflbgkaflaaa", sum := "2469d036b7540f7fc3d004864e0f9a8f7c2fec4d9e4dc8f882aa4404b06d6331", func := "heliograph/heliographlaw06.SamplePoints", spec := "samplePoints", inPlace := ["internal/abi.NoEscape"], unfollowed := true, recurses := true, apart := false }
def SamplePointsSaid : Prop := samplePointsRow.holds Try.pinned (OpenSpec.ofChange samplePointsSpec)

/-- ITS FALSE NEIGHBOUR: 'it returns false'. Refute it at one input. -/
def samplePointsWrong : ChangeSpec := { name := "samplePoints", fn := fun _ => fun
  | [d] => { results := [.lit (.bool false)], args := [d] }
  | _ => none }
def SamplePointsWrongFalsely : Prop := samplePointsRow.holds Try.pinned (OpenSpec.ofChange samplePointsWrong)

/-- 'heliographlaw06.SampleMany': WHATEVER THE INPUT: true; the input reads as it did. -/
def sampleManySpec : ChangeSpec := { name := "sampleMany", fn := fun _ => fun
  | [d] => { results := [.lit (.bool true)], args := [d] }
  | _ => none }
def sampleManyRow : OpenClaim := { program := "ytkonflbgkaflaaa", sum := "2469d036b7540f7fc3d004864e0f9a8f7c2fec4d9e4dc8f882aa4404b06d6331", func := "heliograph/heliographlaw06.SampleMany", spec := "sampleMany", inPlace := ["internal/abi.NoEscape"], unfollowed := true, recurses := true, apart := false }
def SampleManySaid : Prop := sampleManyRow.holds Try.pinned (OpenSpec.ofChange sampleManySpec)

/-- ITS FALSE NEIGHBOUR: 'it returns false'. Refute it at one input. -/
def sampleManyWrong : ChangeSpec := { name := "sampleMany", fn := fun _ => fun
  | [d] => { results := [.lit (.bool false)], args := [d] }
  | _ => none }
def SampleManyWrongFalsely : Prop := sampleManyRow.holds Try.pinned (OpenSpec.ofChange sampleManyWrong)

/-- 'heliographlaw06.SampleReads': WHATEVER THE INPUT: true; the input reads as it did. -/
def sampleReadsSpec : ChangeSpec := { name := "sampleReads", fn := fun _ => fun
  | [d] => { results := [.lit (.bool true)], args := [d] }
  | _ => none }
def sampleReadsRow : OpenClaim := { program := "ytkonflbgkaflaaa", sum := "2469d036b7540f7fc3d004864e0f9a8f7c2fec4d9e4dc8f882aa4404b06d6331", func := "heliograph/heliographlaw06.SampleReads", spec := "sampleReads", inPlace := ["internal/abi.NoEscape"], unfollowed := true, recurses := true, apart := false }
def SampleReadsSaid : Prop := sampleReadsRow.holds Try.pinned (OpenSpec.ofChange sampleReadsSpec)

/-- ITS FALSE NEIGHBOUR: 'it returns false'. Refute it at one input. -/
def sampleReadsWrong : ChangeSpec := { name := "sampleReads", fn := fun _ => fun
  | [d] => { results := [.lit (.bool false)], args := [d] }
  | _ => none }
def SampleReadsWrongFalsely : Prop := sampleReadsRow.holds Try.pinned (OpenSpec.ofChange sampleReadsWrong)

/-- 'heliographlaw06.SampleBack': WHATEVER THE INPUT: true; the input reads as it did. -/
def sampleBackSpec : ChangeSpec := { name := "sampleBack", fn := fun _ => fun
  | [d1, d2, d3] => { results := [.lit (.bool true)], args := [d1, d2, d3] }
  | _ => none }
def sampleBackRow : OpenClaim := { program := "ytkonflbgkaflaaa", sum := "2469d036b7540f7fc3d004864e0f9a8f7c2fec4d9e4dc8f882aa4404b06d6331", func := "heliograph/heliographlaw06.SampleBack", spec := "sampleBack", inPlace := ["internal/abi.NoEscape"], unfollowed := true, recurses := true, apart := false }
def SampleBackSaid : Prop := sampleBackRow.holds Try.pinned (OpenSpec.ofChange sampleBackSpec)

/-- ITS FALSE NEIGHBOUR: 'it returns false'. Refute it at one input. -/
def sampleBackWrong : ChangeSpec := { name := "sampleBack", fn := fun _ => fun
  | [d1, d2, d3] => { results := [.lit (.bool false)], args := [d1, d2, d3] }
  | _ => none }
def SampleBackWrongFalsely : Prop := sampleBackRow.holds Try.pinned (OpenSpec.ofChange sampleBackWrong)

/- THE SECOND FORM. 'bulk': how many values and letters a reading holds, each counted each time it is reached (what is shared counts as often as it is met; a slice's spare places count too). A statement '..UptoSaid' is the law's where the arguments, and the package variables that the reading takes, are together of bulk at most 1048576: NARROWER than '..Said'. Prove '..Said' where nothing that the law and all that it calls make is longer than what came in: it says more and counts as full. Else prove '..UptoSaid'. A law counts once. -/
mutual
def uptoBulk {H : Type} : DataW H → Nat
  | .lit (.string bytes) => bytes.length + 1
  | .lit _ => 1
  | .nil => 1
  | .ptr d => uptoBulk d + 1
  | .slice elems spare => uptoBulkAll elems + uptoBulkAll spare + 1
  | .agg parts => uptoBulkAll parts + 1
  | .iface _ d => uptoBulk d + 1
  | .map entries => uptoBulkEntries entries + 1
  | .held _ => 1
def uptoBulkAll {H : Type} : List (DataW H) → Nat
  | [] => 0
  | d :: r => uptoBulk d + uptoBulkAll r
def uptoBulkEntries {H : Type} : List (Lit × DataW H) → Nat
  | [] => 0
  | x :: r => uptoBulkEntry x + uptoBulkEntries r
def uptoBulkEntry {H : Type} : Lit × DataW H → Nat
  | (.string bytes, d) => bytes.length + uptoBulk d + 1
  | (_, d) => uptoBulk d + 1
 end
def uptoSmall : (H : Type) → List (DataW H) → Bool := fun _ ds => decide (uptoBulkAll ds ≤ 1048576)
def OpenSpec.upto (s : _root_.Go.ChangeSpec) : _root_.Go.OpenSpec := { _root_.Go.OpenSpec.ofChange s with cond := some uptoSmall }

/-- 'heliographlaw06.SampleRecords', WHERE WHAT IT READS IS OF BULK AT MOST 1048576: true; the input reads as it did. -/
def sampleRecordsUptoRow : OpenClaim := { program := "ytkonflbgkaflaaa", sum := "2469d036b7540f7fc3d004864e0f9a8f7c2fec4d9e4dc8f882aa4404b06d6331", func := "heliograph/heliographlaw06.SampleRecords", spec := "sampleRecords", inPlace := ["internal/abi.NoEscape"], apart := false, narrowed := true }
def SampleRecordsUptoSaid : Prop := sampleRecordsUptoRow.holds Try.pinned (OpenSpec.upto sampleRecordsSpec)

/-- 'heliographlaw06.SampleOrder', WHERE WHAT IT READS IS OF BULK AT MOST 1048576: true; the input reads as it did. -/
def sampleOrderUptoRow : OpenClaim := { program := "ytkonflbgkaflaaa", sum := "2469d036b7540f7fc3d004864e0f9a8f7c2fec4d9e4dc8f882aa4404b06d6331", func := "heliograph/heliographlaw06.SampleOrder", spec := "sampleOrder", inPlace := ["internal/abi.NoEscape"], apart := false, narrowed := true }
def SampleOrderUptoSaid : Prop := sampleOrderUptoRow.holds Try.pinned (OpenSpec.upto sampleOrderSpec)

/-- 'heliographlaw06.SamplePoints', WHERE WHAT IT READS IS OF BULK AT MOST 1048576: true; the input reads as it did. -/
def samplePointsUptoRow : OpenClaim := { program := "ytkonflbgkaflaaa", sum := "2469d036b7540f7fc3d004864e0f9a8f7c2fec4d9e4dc8f882aa4404b06d6331", func := "heliograph/heliographlaw06.SamplePoints", spec := "samplePoints", inPlace := ["internal/abi.NoEscape"], unfollowed := true, recurses := true, apart := false, narrowed := true }
def SamplePointsUptoSaid : Prop := samplePointsUptoRow.holds Try.pinned (OpenSpec.upto samplePointsSpec)

/-- 'heliographlaw06.SampleMany', WHERE WHAT IT READS IS OF BULK AT MOST 1048576: true; the input reads as it did. -/
def sampleManyUptoRow : OpenClaim := { program := "ytkonflbgkaflaaa", sum := "2469d036b7540f7fc3d004864e0f9a8f7c2fec4d9e4dc8f882aa4404b06d6331", func := "heliograph/heliographlaw06.SampleMany", spec := "sampleMany", inPlace := ["internal/abi.NoEscape"], unfollowed := true, recurses := true, apart := false, narrowed := true }
def SampleManyUptoSaid : Prop := sampleManyUptoRow.holds Try.pinned (OpenSpec.upto sampleManySpec)

/-- 'heliographlaw06.SampleReads', WHERE WHAT IT READS IS OF BULK AT MOST 1048576: true; the input reads as it did. -/
def sampleReadsUptoRow : OpenClaim := { program := "ytkonflbgkaflaaa", sum := "2469d036b7540f7fc3d004864e0f9a8f7c2fec4d9e4dc8f882aa4404b06d6331", func := "heliograph/heliographlaw06.SampleReads", spec := "sampleReads", inPlace := ["internal/abi.NoEscape"], unfollowed := true, recurses := true, apart := false, narrowed := true }
def SampleReadsUptoSaid : Prop := sampleReadsUptoRow.holds Try.pinned (OpenSpec.upto sampleReadsSpec)

/-- 'heliographlaw06.SampleBack', WHERE WHAT IT READS IS OF BULK AT MOST 1048576: true; the input reads as it did. -/
def sampleBackUptoRow : OpenClaim := { program := "ytkonflbgkaflaaa", sum := "2469d036b7540f7fc3d004864e0f9a8f7c2fec4d9e4dc8f882aa4404b06d6331", func := "heliograph/heliographlaw06.SampleBack", spec := "sampleBack", inPlace := ["internal/abi.NoEscape"], unfollowed := true, recurses := true, apart := false, narrowed := true }
def SampleBackUptoSaid : Prop := sampleBackUptoRow.holds Try.pinned (OpenSpec.upto sampleBackSpec)

end Rows
end Go.Proofs.Ytkonflbgkaflaaa
