/-
  No cell of these rows narrows 'for every input' (looked for: loops, veiled, ifaces, maps, wideKeys, modest, calm, conditions, laid).
  DERIVED. THE GIVEN ROWS OF THIS SEAT. 7 by the template 'for every input the law returns true; each argument reads behind the call as it read before'; 0 by the template 'total and deterministic' (their statements: YtgkidcpcgceabaaTotals.lean).
  GIVEN WITH THE SEED: the statements are not yours to turn. If you find one false, say at which input.
  Laid BY PROGRAM, IN A SANDBOX (cutbox-rows.mjs): the forced cells as the released guide's own fill.sh prints them over the translation e2879a374a02c9c9… (all of the seat's roots in one cut). By AI agents, Wed Nov 11 2026. No macro, syntax, notation, axiom, sorry.
-/
import Derived.Test.YtgkidcpcgceabaaChecked
import GoSem.Claim
import GoSem.ClaimJoined
import GoSem.ClaimMapViews
import Derived.JoinedTies
import Derived.KernelRfl
namespace Go.Proofs.Ytgkidcpcgceabaa
/- THE CELL 'sum', in the pinned program and in every row, IS THE sha256 OF THE DUMP (.gsa) THAT YtgkidcpcgceabaaProg.lean LOADS. Nothing in Lean hashes anything: it is a label: what it is worth is what the hold of that sum in a sandbox is worth. -/
noncomputable def Try.pinned : Pinned := { name := "ytgkidcpcgceabaa", sum := "e2879a374a02c9c9b63797fa105ad2c1e8fbf34ddd71f7d0f57d6803882dbeb7", checked := Try.checked }
namespace Rows
def none {H : Type} : Left H := { results := [], args := [] }

/-- 'heliographlaw03.VintGets': WHATEVER THE INPUT: true; the input reads as it did. -/
def vintGetsSpec : ChangeSpec := { name := "vintGets", fn := fun _ => fun
  | [d1, d2] => { results := [.lit (.bool true)], args := [d1, d2] }
  | _ => none }
def vintGetsRow : OpenClaim := { program := "ytgkidcpcgceabaa", sum := "e2879a374a02c9c9b63797fa105ad2c1e8fbf34ddd71f7d0f57d6803882dbeb7", func := "heliograph/heliographlaw03.VintGets", spec := "vintGets", apart := false }
def VintGetsSaid : Prop := vintGetsRow.holds Try.pinned (OpenSpec.ofChange vintGetsSpec)

/-- ITS FALSE NEIGHBOUR: 'it returns false'. Refute it at one input. -/
def vintGetsWrong : ChangeSpec := { name := "vintGets", fn := fun _ => fun
  | [d1, d2] => { results := [.lit (.bool false)], args := [d1, d2] }
  | _ => none }
def VintGetsWrongFalsely : Prop := vintGetsRow.holds Try.pinned (OpenSpec.ofChange vintGetsWrong)

/-- 'heliographlaw03.VintBack': WHATEVER THE INPUT: true; the input reads as it did. -/
def vintBackSpec : ChangeSpec := { name := "vintBack", fn := fun _ => fun
  | [d1, d2, d3] => { results := [.lit (.bool true)], args := [d1, d2, d3] }
  | _ => none }
def vintBackRow : OpenClaim := { program := "ytgkidcpcgceabaa", sum := "e2879a374a02c9c9b63797fa105ad2c1e8fbf34ddd71f7d0f57d6803882dbeb7", func := "heliograph/heliographlaw03.VintBack", spec := "vintBack", apart := false }
def VintBackSaid : Prop := vintBackRow.holds Try.pinned (OpenSpec.ofChange vintBackSpec)

/-- ITS FALSE NEIGHBOUR: 'it returns false'. Refute it at one input. -/
def vintBackWrong : ChangeSpec := { name := "vintBack", fn := fun _ => fun
  | [d1, d2, d3] => { results := [.lit (.bool false)], args := [d1, d2, d3] }
  | _ => none }
def VintBackWrongFalsely : Prop := vintBackRow.holds Try.pinned (OpenSpec.ofChange vintBackWrong)

/-- 'heliographlaw03.VintSigns': WHATEVER THE INPUT: true; the input reads as it did. -/
def vintSignsSpec : ChangeSpec := { name := "vintSigns", fn := fun _ => fun
  | [d1, d2] => { results := [.lit (.bool true)], args := [d1, d2] }
  | _ => none }
def vintSignsRow : OpenClaim := { program := "ytgkidcpcgceabaa", sum := "e2879a374a02c9c9b63797fa105ad2c1e8fbf34ddd71f7d0f57d6803882dbeb7", func := "heliograph/heliographlaw03.VintSigns", spec := "vintSigns", inPlace := ["internal/abi.NoEscape"], apart := false }
def VintSignsSaid : Prop := vintSignsRow.holds Try.pinned (OpenSpec.ofChange vintSignsSpec)

/-- ITS FALSE NEIGHBOUR: 'it returns false'. Refute it at one input. -/
def vintSignsWrong : ChangeSpec := { name := "vintSigns", fn := fun _ => fun
  | [d1, d2] => { results := [.lit (.bool false)], args := [d1, d2] }
  | _ => none }
def VintSignsWrongFalsely : Prop := vintSignsRow.holds Try.pinned (OpenSpec.ofChange vintSignsWrong)

/-- 'heliographlaw03.VintPuts': WHATEVER THE INPUT: true; the input reads as it did. -/
def vintPutsSpec : ChangeSpec := { name := "vintPuts", fn := fun _ => fun
  | [d1, d2, d3] => { results := [.lit (.bool true)], args := [d1, d2, d3] }
  | _ => none }
def vintPutsRow : OpenClaim := { program := "ytgkidcpcgceabaa", sum := "e2879a374a02c9c9b63797fa105ad2c1e8fbf34ddd71f7d0f57d6803882dbeb7", func := "heliograph/heliographlaw03.VintPuts", spec := "vintPuts", inPlace := ["internal/abi.NoEscape"], apart := false }
def VintPutsSaid : Prop := vintPutsRow.holds Try.pinned (OpenSpec.ofChange vintPutsSpec)

/-- ITS FALSE NEIGHBOUR: 'it returns false'. Refute it at one input. -/
def vintPutsWrong : ChangeSpec := { name := "vintPuts", fn := fun _ => fun
  | [d1, d2, d3] => { results := [.lit (.bool false)], args := [d1, d2, d3] }
  | _ => none }
def VintPutsWrongFalsely : Prop := vintPutsRow.holds Try.pinned (OpenSpec.ofChange vintPutsWrong)

/-- 'heliographlaw03.VintNil': WHATEVER THE INPUT: true; the input reads as it did. -/
def vintNilSpec : ChangeSpec := { name := "vintNil", fn := fun _ => fun
  | [d] => { results := [.lit (.bool true)], args := [d] }
  | _ => none }
def vintNilRow : OpenClaim := { program := "ytgkidcpcgceabaa", sum := "e2879a374a02c9c9b63797fa105ad2c1e8fbf34ddd71f7d0f57d6803882dbeb7", func := "heliograph/heliographlaw03.VintNil", spec := "vintNil", unfollowed := true, recurses := true, apart := false }
def VintNilSaid : Prop := vintNilRow.holds Try.pinned (OpenSpec.ofChange vintNilSpec)

/-- ITS FALSE NEIGHBOUR: 'it returns false'. Refute it at one input. -/
def vintNilWrong : ChangeSpec := { name := "vintNil", fn := fun _ => fun
  | [d] => { results := [.lit (.bool false)], args := [d] }
  | _ => none }
def VintNilWrongFalsely : Prop := vintNilRow.holds Try.pinned (OpenSpec.ofChange vintNilWrong)

/-- 'heliographlaw03.VintReads': WHATEVER THE INPUT: true; the input reads as it did. -/
def vintReadsSpec : ChangeSpec := { name := "vintReads", fn := fun _ => fun
  | [d1, d2] => { results := [.lit (.bool true)], args := [d1, d2] }
  | _ => none }
def vintReadsRow : OpenClaim := { program := "ytgkidcpcgceabaa", sum := "e2879a374a02c9c9b63797fa105ad2c1e8fbf34ddd71f7d0f57d6803882dbeb7", func := "heliograph/heliographlaw03.VintReads", spec := "vintReads", unfollowed := true, recurses := true, apart := false }
def VintReadsSaid : Prop := vintReadsRow.holds Try.pinned (OpenSpec.ofChange vintReadsSpec)

/-- ITS FALSE NEIGHBOUR: 'it returns false'. Refute it at one input. -/
def vintReadsWrong : ChangeSpec := { name := "vintReads", fn := fun _ => fun
  | [d1, d2] => { results := [.lit (.bool false)], args := [d1, d2] }
  | _ => none }
def VintReadsWrongFalsely : Prop := vintReadsRow.holds Try.pinned (OpenSpec.ofChange vintReadsWrong)

/-- 'heliographlaw03.VintRows': WHATEVER THE INPUT: true; the input reads as it did. -/
def vintRowsSpec : ChangeSpec := { name := "vintRows", fn := fun _ => fun
  | [d1, d2, d3] => { results := [.lit (.bool true)], args := [d1, d2, d3] }
  | _ => none }
def vintRowsRow : OpenClaim := { program := "ytgkidcpcgceabaa", sum := "e2879a374a02c9c9b63797fa105ad2c1e8fbf34ddd71f7d0f57d6803882dbeb7", func := "heliograph/heliographlaw03.VintRows", spec := "vintRows", inPlace := ["internal/abi.NoEscape"], unfollowed := true, recurses := true, apart := false }
def VintRowsSaid : Prop := vintRowsRow.holds Try.pinned (OpenSpec.ofChange vintRowsSpec)

/-- ITS FALSE NEIGHBOUR: 'it returns false'. Refute it at one input. -/
def vintRowsWrong : ChangeSpec := { name := "vintRows", fn := fun _ => fun
  | [d1, d2, d3] => { results := [.lit (.bool false)], args := [d1, d2, d3] }
  | _ => none }
def VintRowsWrongFalsely : Prop := vintRowsRow.holds Try.pinned (OpenSpec.ofChange vintRowsWrong)

/- THE SECOND FORM. 'bulk': how many values and letters a reading holds, each counted each time it is reached (what is shared counts as often as it is met; a slice's spare places count too). A statement '..UptoSaid' is the law's where the arguments, and the package variables that the reading takes, are together of bulk at most 1048576: NARROWER than '..Said'. Prove '..Said' where nothing that the law and all that it calls make is longer than what came in: it says more and counts as full. Else prove '..UptoSaid'. A law counts once. -/
mutual
def uptoBulk {H : Type} : DataW H → Nat
  | .lit (.string bytes) => bytes.length + 1
  | .lit _ => 1
  | .nil => 1
  | .ptr d => uptoBulk d + 1
  | .slice elems spare => uptoBulkAll elems + uptoBulkAll spare + 1
  | .agg parts => uptoBulkAll parts + 1
  | .iface _ d => uptoBulk d + 1
  | .map entries => uptoBulkEntries entries + 1
  | .held _ => 1
def uptoBulkAll {H : Type} : List (DataW H) → Nat
  | [] => 0
  | d :: r => uptoBulk d + uptoBulkAll r
def uptoBulkEntries {H : Type} : List (Lit × DataW H) → Nat
  | [] => 0
  | x :: r => uptoBulkEntry x + uptoBulkEntries r
def uptoBulkEntry {H : Type} : Lit × DataW H → Nat
  | (.string bytes, d) => bytes.length + uptoBulk d + 1
  | (_, d) => uptoBulk d + 1
 end
def uptoSmall : (H : Type) → List (DataW H) → Bool := fun _ ds => decide (uptoBulkAll ds ≤ 1048576)
def OpenSpec.upto (s : _root_.Go.ChangeSpec) : _root_.Go.OpenSpec := { _root_.Go.OpenSpec.ofChange s with cond := some uptoSmall }

/-- 'heliographlaw03.VintGets', WHERE WHAT IT READS IS OF BULK AT MOST 1048576: true; the input reads as it did. -/
def vintGetsUptoRow : OpenClaim := { program := "ytgkidcpcgceabaa", sum := "e2879a374a02c9c9b63797fa105ad2c1e8fbf34ddd71f7d0f57d6803882dbeb7", func := "heliograph/heliographlaw03.VintGets", spec := "vintGets", apart := false, narrowed := true }
def VintGetsUptoSaid : Prop := vintGetsUptoRow.holds Try.pinned (OpenSpec.upto vintGetsSpec)

/-- 'heliographlaw03.VintBack', WHERE WHAT IT READS IS OF BULK AT MOST 1048576: true; the input reads as it did. -/
def vintBackUptoRow : OpenClaim := { program := "ytgkidcpcgceabaa", sum := "e2879a374a02c9c9b63797fa105ad2c1e8fbf34ddd71f7d0f57d6803882dbeb7", func := "heliograph/heliographlaw03.VintBack", spec := "vintBack", apart := false, narrowed := true }
def VintBackUptoSaid : Prop := vintBackUptoRow.holds Try.pinned (OpenSpec.upto vintBackSpec)

/-- 'heliographlaw03.VintSigns', WHERE WHAT IT READS IS OF BULK AT MOST 1048576: true; the input reads as it did. -/
def vintSignsUptoRow : OpenClaim := { program := "ytgkidcpcgceabaa", sum := "e2879a374a02c9c9b63797fa105ad2c1e8fbf34ddd71f7d0f57d6803882dbeb7", func := "heliograph/heliographlaw03.VintSigns", spec := "vintSigns", inPlace := ["internal/abi.NoEscape"], apart := false, narrowed := true }
def VintSignsUptoSaid : Prop := vintSignsUptoRow.holds Try.pinned (OpenSpec.upto vintSignsSpec)

/-- 'heliographlaw03.VintPuts', WHERE WHAT IT READS IS OF BULK AT MOST 1048576: true; the input reads as it did. -/
def vintPutsUptoRow : OpenClaim := { program := "ytgkidcpcgceabaa", sum := "e2879a374a02c9c9b63797fa105ad2c1e8fbf34ddd71f7d0f57d6803882dbeb7", func := "heliograph/heliographlaw03.VintPuts", spec := "vintPuts", inPlace := ["internal/abi.NoEscape"], apart := false, narrowed := true }
def VintPutsUptoSaid : Prop := vintPutsUptoRow.holds Try.pinned (OpenSpec.upto vintPutsSpec)

/-- 'heliographlaw03.VintNil', WHERE WHAT IT READS IS OF BULK AT MOST 1048576: true; the input reads as it did. -/
def vintNilUptoRow : OpenClaim := { program := "ytgkidcpcgceabaa", sum := "e2879a374a02c9c9b63797fa105ad2c1e8fbf34ddd71f7d0f57d6803882dbeb7", func := "heliograph/heliographlaw03.VintNil", spec := "vintNil", unfollowed := true, recurses := true, apart := false, narrowed := true }
def VintNilUptoSaid : Prop := vintNilUptoRow.holds Try.pinned (OpenSpec.upto vintNilSpec)

/-- 'heliographlaw03.VintReads', WHERE WHAT IT READS IS OF BULK AT MOST 1048576: true; the input reads as it did. -/
def vintReadsUptoRow : OpenClaim := { program := "ytgkidcpcgceabaa", sum := "e2879a374a02c9c9b63797fa105ad2c1e8fbf34ddd71f7d0f57d6803882dbeb7", func := "heliograph/heliographlaw03.VintReads", spec := "vintReads", unfollowed := true, recurses := true, apart := false, narrowed := true }
def VintReadsUptoSaid : Prop := vintReadsUptoRow.holds Try.pinned (OpenSpec.upto vintReadsSpec)

/-- 'heliographlaw03.VintRows', WHERE WHAT IT READS IS OF BULK AT MOST 1048576: true; the input reads as it did. -/
def vintRowsUptoRow : OpenClaim := { program := "ytgkidcpcgceabaa", sum := "e2879a374a02c9c9b63797fa105ad2c1e8fbf34ddd71f7d0f57d6803882dbeb7", func := "heliograph/heliographlaw03.VintRows", spec := "vintRows", inPlace := ["internal/abi.NoEscape"], unfollowed := true, recurses := true, apart := false, narrowed := true }
def VintRowsUptoSaid : Prop := vintRowsUptoRow.holds Try.pinned (OpenSpec.upto vintRowsSpec)

end Rows
end Go.Proofs.Ytgkidcpcgceabaa
