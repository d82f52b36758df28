/-
  No cell of these rows narrows 'for every input' (looked for: loops, veiled, ifaces, maps, wideKeys, modest, calm, conditions, laid).
  DERIVED. THE GIVEN ROWS OF THIS SEAT. 7 by the template 'for every input the law returns true; each argument reads behind the call as it read before'; 0 by the template 'total and deterministic' (their statements: YtmdbdkeonijfbaaTotals.lean).
  GIVEN WITH THE SEED: the statements are not yours to turn. If you find one false, say at which input.
  Laid BY PROGRAM, IN A SANDBOX (cutbox-rows.mjs): the forced cells as the released guide's own fill.sh prints them over the translation b92a155f3d8fd433… (all of the seat's roots in one cut). By AI agents, Wed Nov 11 2026. No macro, syntax, notation, axiom, sorry.
-/
import Derived.Test.YtmdbdkeonijfbaaChecked
import GoSem.Claim
import GoSem.ClaimJoined
import GoSem.ClaimMapViews
import Derived.JoinedTies
import Derived.KernelRfl
namespace Go.Proofs.Ytmdbdkeonijfbaa
/- THE CELL 'sum', in the pinned program and in every row, IS THE sha256 OF THE DUMP (.gsa) THAT YtmdbdkeonijfbaaProg.lean LOADS. Nothing in Lean hashes anything: it is a label: what it is worth is what the hold of that sum in a sandbox is worth. -/
noncomputable def Try.pinned : Pinned := { name := "ytmdbdkeonijfbaa", sum := "b92a155f3d8fd433354cd27e8d970a0f6b5c58dfa583329a06ef24f0a70a3ae3", checked := Try.checked }
namespace Rows
def none {H : Type} : Left H := { results := [], args := [] }

/-- 'heliographlaw04.MarkLattice': WHATEVER THE INPUT: true; the input reads as it did. -/
def markLatticeSpec : ChangeSpec := { name := "markLattice", fn := fun _ => fun
  | [d1, d2, d3] => { results := [.lit (.bool true)], args := [d1, d2, d3] }
  | _ => none }
def markLatticeRow : OpenClaim := { program := "ytmdbdkeonijfbaa", sum := "b92a155f3d8fd433354cd27e8d970a0f6b5c58dfa583329a06ef24f0a70a3ae3", func := "heliograph/heliographlaw04.MarkLattice", spec := "markLattice", inPlace := ["internal/abi.NoEscape"], unfollowed := true, recurses := true, apart := false }
def MarkLatticeSaid : Prop := markLatticeRow.holds Try.pinned (OpenSpec.ofChange markLatticeSpec)

/-- ITS FALSE NEIGHBOUR: 'it returns false'. Refute it at one input. -/
def markLatticeWrong : ChangeSpec := { name := "markLattice", fn := fun _ => fun
  | [d1, d2, d3] => { results := [.lit (.bool false)], args := [d1, d2, d3] }
  | _ => none }
def MarkLatticeWrongFalsely : Prop := markLatticeRow.holds Try.pinned (OpenSpec.ofChange markLatticeWrong)

/-- 'heliographlaw04.MarkVectors': WHATEVER THE INPUT: true; the input reads as it did. -/
def markVectorsSpec : ChangeSpec := { name := "markVectors", fn := fun _ => fun
  | [d1, d2, d3] => { results := [.lit (.bool true)], args := [d1, d2, d3] }
  | _ => none }
def markVectorsRow : OpenClaim := { program := "ytmdbdkeonijfbaa", sum := "b92a155f3d8fd433354cd27e8d970a0f6b5c58dfa583329a06ef24f0a70a3ae3", func := "heliograph/heliographlaw04.MarkVectors", spec := "markVectors", inPlace := ["internal/abi.NoEscape"], unfollowed := true, recurses := true, apart := false }
def MarkVectorsSaid : Prop := markVectorsRow.holds Try.pinned (OpenSpec.ofChange markVectorsSpec)

/-- ITS FALSE NEIGHBOUR: 'it returns false'. Refute it at one input. -/
def markVectorsWrong : ChangeSpec := { name := "markVectors", fn := fun _ => fun
  | [d1, d2, d3] => { results := [.lit (.bool false)], args := [d1, d2, d3] }
  | _ => none }
def MarkVectorsWrongFalsely : Prop := markVectorsRow.holds Try.pinned (OpenSpec.ofChange markVectorsWrong)

/-- 'heliographlaw04.MarkSteps': WHATEVER THE INPUT: true; the input reads as it did. -/
def markStepsSpec : ChangeSpec := { name := "markSteps", fn := fun _ => fun
  | [d1, d2] => { results := [.lit (.bool true)], args := [d1, d2] }
  | _ => none }
def markStepsRow : OpenClaim := { program := "ytmdbdkeonijfbaa", sum := "b92a155f3d8fd433354cd27e8d970a0f6b5c58dfa583329a06ef24f0a70a3ae3", func := "heliograph/heliographlaw04.MarkSteps", spec := "markSteps", inPlace := ["internal/abi.NoEscape"], unfollowed := true, recurses := true, apart := false }
def MarkStepsSaid : Prop := markStepsRow.holds Try.pinned (OpenSpec.ofChange markStepsSpec)

/-- ITS FALSE NEIGHBOUR: 'it returns false'. Refute it at one input. -/
def markStepsWrong : ChangeSpec := { name := "markSteps", fn := fun _ => fun
  | [d1, d2] => { results := [.lit (.bool false)], args := [d1, d2] }
  | _ => none }
def MarkStepsWrongFalsely : Prop := markStepsRow.holds Try.pinned (OpenSpec.ofChange markStepsWrong)

/-- 'heliographlaw04.MarkOrder': WHATEVER THE INPUT: true; the input reads as it did. -/
def markOrderSpec : ChangeSpec := { name := "markOrder", fn := fun _ => fun
  | [d1, d2, d3] => { results := [.lit (.bool true)], args := [d1, d2, d3] }
  | _ => none }
def markOrderRow : OpenClaim := { program := "ytmdbdkeonijfbaa", sum := "b92a155f3d8fd433354cd27e8d970a0f6b5c58dfa583329a06ef24f0a70a3ae3", func := "heliograph/heliographlaw04.MarkOrder", spec := "markOrder", inPlace := ["internal/abi.NoEscape"], unfollowed := true, recurses := true, apart := false }
def MarkOrderSaid : Prop := markOrderRow.holds Try.pinned (OpenSpec.ofChange markOrderSpec)

/-- ITS FALSE NEIGHBOUR: 'it returns false'. Refute it at one input. -/
def markOrderWrong : ChangeSpec := { name := "markOrder", fn := fun _ => fun
  | [d1, d2, d3] => { results := [.lit (.bool false)], args := [d1, d2, d3] }
  | _ => none }
def MarkOrderWrongFalsely : Prop := markOrderRow.holds Try.pinned (OpenSpec.ofChange markOrderWrong)

/-- 'heliographlaw04.MarkTexts': WHATEVER THE INPUT: true; the input reads as it did. -/
def markTextsSpec : ChangeSpec := { name := "markTexts", fn := fun _ => fun
  | [d1, d2] => { results := [.lit (.bool true)], args := [d1, d2] }
  | _ => none }
def markTextsRow : OpenClaim := { program := "ytmdbdkeonijfbaa", sum := "b92a155f3d8fd433354cd27e8d970a0f6b5c58dfa583329a06ef24f0a70a3ae3", func := "heliograph/heliographlaw04.MarkTexts", spec := "markTexts", inPlace := ["internal/abi.NoEscape"], unfollowed := true, recurses := true, apart := false }
def MarkTextsSaid : Prop := markTextsRow.holds Try.pinned (OpenSpec.ofChange markTextsSpec)

/-- ITS FALSE NEIGHBOUR: 'it returns false'. Refute it at one input. -/
def markTextsWrong : ChangeSpec := { name := "markTexts", fn := fun _ => fun
  | [d1, d2] => { results := [.lit (.bool false)], args := [d1, d2] }
  | _ => none }
def MarkTextsWrongFalsely : Prop := markTextsRow.holds Try.pinned (OpenSpec.ofChange markTextsWrong)

/-- 'heliographlaw04.MarkRows': WHATEVER THE INPUT: true; the input reads as it did. -/
def markRowsSpec : ChangeSpec := { name := "markRows", fn := fun _ => fun
  | [d] => { results := [.lit (.bool true)], args := [d] }
  | _ => none }
def markRowsRow : OpenClaim := { program := "ytmdbdkeonijfbaa", sum := "b92a155f3d8fd433354cd27e8d970a0f6b5c58dfa583329a06ef24f0a70a3ae3", func := "heliograph/heliographlaw04.MarkRows", spec := "markRows", inPlace := ["internal/abi.NoEscape"], unfollowed := true, recurses := true, apart := false }
def MarkRowsSaid : Prop := markRowsRow.holds Try.pinned (OpenSpec.ofChange markRowsSpec)

/-- ITS FALSE NEIGHBOUR: 'it returns false'. Refute it at one input. -/
def markRowsWrong : ChangeSpec := { name := "markRows", fn := fun _ => fun
  | [d] => { results := [.lit (.bool false)], args := [d] }
  | _ => none }
def MarkRowsWrongFalsely : Prop := markRowsRow.holds Try.pinned (OpenSpec.ofChange markRowsWrong)

/-- 'heliographlaw04.MarkStamps': WHATEVER THE INPUT: true; the input reads as it did. -/
def markStampsSpec : ChangeSpec := { name := "markStamps", fn := fun _ => fun
  | [d1, d2, d3] => { results := [.lit (.bool true)], args := [d1, d2, d3] }
  | _ => none }
def markStampsRow : OpenClaim := { program := "ytmdbdkeonijfbaa", sum := "b92a155f3d8fd433354cd27e8d970a0f6b5c58dfa583329a06ef24f0a70a3ae3", func := "heliograph/heliographlaw04.MarkStamps", spec := "markStamps", inPlace := ["internal/abi.NoEscape"], unfollowed := true, recurses := true, apart := false }
def MarkStampsSaid : Prop := markStampsRow.holds Try.pinned (OpenSpec.ofChange markStampsSpec)

/-- ITS FALSE NEIGHBOUR: 'it returns false'. Refute it at one input. -/
def markStampsWrong : ChangeSpec := { name := "markStamps", fn := fun _ => fun
  | [d1, d2, d3] => { results := [.lit (.bool false)], args := [d1, d2, d3] }
  | _ => none }
def MarkStampsWrongFalsely : Prop := markStampsRow.holds Try.pinned (OpenSpec.ofChange markStampsWrong)

/- THE SECOND FORM. 'bulk': how many values and letters a reading holds, each counted each time it is reached (what is shared counts as often as it is met; a slice's spare places count too). A statement '..UptoSaid' is the law's where the arguments, and the package variables that the reading takes, are together of bulk at most 1048576: NARROWER than '..Said'. Prove '..Said' where nothing that the law and all that it calls make is longer than what came in: it says more and counts as full. Else prove '..UptoSaid'. A law counts once. -/
mutual
def uptoBulk {H : Type} : DataW H → Nat
  | .lit (.string bytes) => bytes.length + 1
  | .lit _ => 1
  | .nil => 1
  | .ptr d => uptoBulk d + 1
  | .slice elems spare => uptoBulkAll elems + uptoBulkAll spare + 1
  | .agg parts => uptoBulkAll parts + 1
  | .iface _ d => uptoBulk d + 1
  | .map entries => uptoBulkEntries entries + 1
  | .held _ => 1
def uptoBulkAll {H : Type} : List (DataW H) → Nat
  | [] => 0
  | d :: r => uptoBulk d + uptoBulkAll r
def uptoBulkEntries {H : Type} : List (Lit × DataW H) → Nat
  | [] => 0
  | x :: r => uptoBulkEntry x + uptoBulkEntries r
def uptoBulkEntry {H : Type} : Lit × DataW H → Nat
  | (.string bytes, d) => bytes.length + uptoBulk d + 1
  | (_, d) => uptoBulk d + 1
 end
def uptoSmall : (H : Type) → List (DataW H) → Bool := fun _ ds => decide (uptoBulkAll ds ≤ 1048576)
def OpenSpec.upto (s : _root_.Go.ChangeSpec) : _root_.Go.OpenSpec := { _root_.Go.OpenSpec.ofChange s with cond := some uptoSmall }

/-- 'heliographlaw04.MarkLattice', WHERE WHAT IT READS IS OF BULK AT MOST 1048576: true; the input reads as it did. -/
def markLatticeUptoRow : OpenClaim := { program := "ytmdbdkeonijfbaa", sum := "b92a155f3d8fd433354cd27e8d970a0f6b5c58dfa583329a06ef24f0a70a3ae3", func := "heliograph/heliographlaw04.MarkLattice", spec := "markLattice", inPlace := ["internal/abi.NoEscape"], unfollowed := true, recurses := true, apart := false, narrowed := true }
def MarkLatticeUptoSaid : Prop := markLatticeUptoRow.holds Try.pinned (OpenSpec.upto markLatticeSpec)

/-- 'heliographlaw04.MarkVectors', WHERE WHAT IT READS IS OF BULK AT MOST 1048576: true; the input reads as it did. -/
def markVectorsUptoRow : OpenClaim := { program := "ytmdbdkeonijfbaa", sum := "b92a155f3d8fd433354cd27e8d970a0f6b5c58dfa583329a06ef24f0a70a3ae3", func := "heliograph/heliographlaw04.MarkVectors", spec := "markVectors", inPlace := ["internal/abi.NoEscape"], unfollowed := true, recurses := true, apart := false, narrowed := true }
def MarkVectorsUptoSaid : Prop := markVectorsUptoRow.holds Try.pinned (OpenSpec.upto markVectorsSpec)

/-- 'heliographlaw04.MarkSteps', WHERE WHAT IT READS IS OF BULK AT MOST 1048576: true; the input reads as it did. -/
def markStepsUptoRow : OpenClaim := { program := "ytmdbdkeonijfbaa", sum := "b92a155f3d8fd433354cd27e8d970a0f6b5c58dfa583329a06ef24f0a70a3ae3", func := "heliograph/heliographlaw04.MarkSteps", spec := "markSteps", inPlace := ["internal/abi.NoEscape"], unfollowed := true, recurses := true, apart := false, narrowed := true }
def MarkStepsUptoSaid : Prop := markStepsUptoRow.holds Try.pinned (OpenSpec.upto markStepsSpec)

/-- 'heliographlaw04.MarkOrder', WHERE WHAT IT READS IS OF BULK AT MOST 1048576: true; the input reads as it did. -/
def markOrderUptoRow : OpenClaim := { program := "ytmdbdkeonijfbaa", sum := "b92a155f3d8fd433354cd27e8d970a0f6b5c58dfa583329a06ef24f0a70a3ae3", func := "heliograph/heliographlaw04.MarkOrder", spec := "markOrder", inPlace := ["internal/abi.NoEscape"], unfollowed := true, recurses := true, apart := false, narrowed := true }
def MarkOrderUptoSaid : Prop := markOrderUptoRow.holds Try.pinned (OpenSpec.upto markOrderSpec)

/-- 'heliographlaw04.MarkTexts', WHERE WHAT IT READS IS OF BULK AT MOST 1048576: true; the input reads as it did. -/
def markTextsUptoRow : OpenClaim := { program := "ytmdbdkeonijfbaa", sum := "b92a155f3d8fd433354cd27e8d970a0f6b5c58dfa583329a06ef24f0a70a3ae3", func := "heliograph/heliographlaw04.MarkTexts", spec := "markTexts", inPlace := ["internal/abi.NoEscape"], unfollowed := true, recurses := true, apart := false, narrowed := true }
def MarkTextsUptoSaid : Prop := markTextsUptoRow.holds Try.pinned (OpenSpec.upto markTextsSpec)

/-- 'heliographlaw04.MarkRows', WHERE WHAT IT READS IS OF BULK AT MOST 1048576: true; the input reads as it did. -/
def markRowsUptoRow : OpenClaim := { program := "ytmdbdkeonijfbaa", sum := "b92a155f3d8fd433354cd27e8d970a0f6b5c58dfa583329a06ef24f0a70a3ae3", func := "heliograph/heliographlaw04.MarkRows", spec := "markRows", inPlace := ["internal/abi.NoEscape"], unfollowed := true, recurses := true, apart := false, narrowed := true }
def MarkRowsUptoSaid : Prop := markRowsUptoRow.holds Try.pinned (OpenSpec.upto markRowsSpec)

/-- 'heliographlaw04.MarkStamps', WHERE WHAT IT READS IS OF BULK AT MOST 1048576: true; the input reads as it did. -/
def markStampsUptoRow : OpenClaim := { program := "ytmdbdkeonijfbaa", sum := "b92a155f3d8fd433354cd27e8d970a0f6b5c58dfa583329a06ef24f0a70a3ae3", func := "heliograph/heliographlaw04.MarkStamps", spec := "markStamps", inPlace := ["internal/abi.NoEscape"], unfollowed := true, recurses := true, apart := false, narrowed := true }
def MarkStampsUptoSaid : Prop := markStampsUptoRow.holds Try.pinned (OpenSpec.upto markStampsSpec)

end Rows
end Go.Proofs.Ytmdbdkeonijfbaa
