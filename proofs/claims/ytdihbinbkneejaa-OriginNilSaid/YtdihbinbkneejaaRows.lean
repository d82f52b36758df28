/-
  No cell of these rows narrows 'for every input' (looked for: loops, veiled, ifaces, maps, wideKeys, modest, calm, conditions, laid).
  DERIVED. THE GIVEN ROWS OF THIS SEAT. 5 by the template 'for every input the law returns true; each argument reads behind the call as it read before'; 0 by the template 'total and deterministic' (their statements: YtdihbinbkneejaaTotals.lean).
  GIVEN WITH THE SEED: the statements are not yours to turn. If you find one false, say at which input.
  Laid BY PROGRAM, IN A SANDBOX (cutbox-rows.mjs): the forced cells as the released guide's own fill.sh prints them over the translation 072c67c5138223b8… (all of the seat's roots in one cut). By AI agents, Wed Nov 11 2026. No macro, syntax, notation, axiom, sorry.
-/
import Derived.Test.YtdihbinbkneejaaChecked
import GoSem.Claim
import GoSem.ClaimJoined
import GoSem.ClaimMapViews
import Derived.JoinedTies
import Derived.KernelRfl
namespace Go.Proofs.Ytdihbinbkneejaa
/- THE CELL 'sum', in the pinned program and in every row, IS THE sha256 OF THE DUMP (.gsa) THAT YtdihbinbkneejaaProg.lean LOADS. Nothing in Lean hashes anything: it is a label: what it is worth is what the hold of that sum in a sandbox is worth. -/
noncomputable def Try.pinned : Pinned := { name := "ytdihbinbkneejaa", sum := "072c67c5138223b81d58ea88526d63cd14ca68b3183d719302588017a3a541a2", checked := Try.checked }
namespace Rows
def none {H : Type} : Left H := { results := [], args := [] }

/-- 'heliographlaw17.OriginTells': WHATEVER THE INPUT: true; the input reads as it did. -/
def originTellsSpec : ChangeSpec := { name := "originTells", fn := fun _ => fun
  | [d1, d2] => { results := [.lit (.bool true)], args := [d1, d2] }
  | _ => none }
def originTellsRow : OpenClaim := { program := "ytdihbinbkneejaa", sum := "072c67c5138223b81d58ea88526d63cd14ca68b3183d719302588017a3a541a2", func := "heliograph/heliographlaw17.OriginTells", spec := "originTells", unfollowed := true, recurses := true, apart := false }
def OriginTellsSaid : Prop := originTellsRow.holds Try.pinned (OpenSpec.ofChange originTellsSpec)

/-- ITS FALSE NEIGHBOUR: 'it returns false'. Refute it at one input. -/
def originTellsWrong : ChangeSpec := { name := "originTells", fn := fun _ => fun
  | [d1, d2] => { results := [.lit (.bool false)], args := [d1, d2] }
  | _ => none }
def OriginTellsWrongFalsely : Prop := originTellsRow.holds Try.pinned (OpenSpec.ofChange originTellsWrong)

/-- 'heliographlaw17.OriginCausal': WHATEVER THE INPUT: true; the input reads as it did. -/
def originCausalSpec : ChangeSpec := { name := "originCausal", fn := fun _ => fun
  | [d] => { results := [.lit (.bool true)], args := [d] }
  | _ => none }
def originCausalRow : OpenClaim := { program := "ytdihbinbkneejaa", sum := "072c67c5138223b81d58ea88526d63cd14ca68b3183d719302588017a3a541a2", func := "heliograph/heliographlaw17.OriginCausal", spec := "originCausal", unfollowed := true, recurses := true, apart := false }
def OriginCausalSaid : Prop := originCausalRow.holds Try.pinned (OpenSpec.ofChange originCausalSpec)

/-- ITS FALSE NEIGHBOUR: 'it returns false'. Refute it at one input. -/
def originCausalWrong : ChangeSpec := { name := "originCausal", fn := fun _ => fun
  | [d] => { results := [.lit (.bool false)], args := [d] }
  | _ => none }
def OriginCausalWrongFalsely : Prop := originCausalRow.holds Try.pinned (OpenSpec.ofChange originCausalWrong)

/-- 'heliographlaw17.OriginTrims': WHATEVER THE INPUT: true; the input reads as it did. -/
def originTrimsSpec : ChangeSpec := { name := "originTrims", fn := fun _ => fun
  | [d1, d2] => { results := [.lit (.bool true)], args := [d1, d2] }
  | _ => none }
def originTrimsRow : OpenClaim := { program := "ytdihbinbkneejaa", sum := "072c67c5138223b81d58ea88526d63cd14ca68b3183d719302588017a3a541a2", func := "heliograph/heliographlaw17.OriginTrims", spec := "originTrims", unfollowed := true, recurses := true, apart := false }
def OriginTrimsSaid : Prop := originTrimsRow.holds Try.pinned (OpenSpec.ofChange originTrimsSpec)

/-- ITS FALSE NEIGHBOUR: 'it returns false'. Refute it at one input. -/
def originTrimsWrong : ChangeSpec := { name := "originTrims", fn := fun _ => fun
  | [d1, d2] => { results := [.lit (.bool false)], args := [d1, d2] }
  | _ => none }
def OriginTrimsWrongFalsely : Prop := originTrimsRow.holds Try.pinned (OpenSpec.ofChange originTrimsWrong)

/-- 'heliographlaw17.OriginPlays': WHATEVER THE INPUT: true; the input reads as it did. -/
def originPlaysSpec : ChangeSpec := { name := "originPlays", fn := fun _ => fun
  | [d1, d2, d3] => { results := [.lit (.bool true)], args := [d1, d2, d3] }
  | _ => none }
def originPlaysRow : OpenClaim := { program := "ytdihbinbkneejaa", sum := "072c67c5138223b81d58ea88526d63cd14ca68b3183d719302588017a3a541a2", func := "heliograph/heliographlaw17.OriginPlays", spec := "originPlays", unfollowed := true, recurses := true, apart := false }
def OriginPlaysSaid : Prop := originPlaysRow.holds Try.pinned (OpenSpec.ofChange originPlaysSpec)

/-- ITS FALSE NEIGHBOUR: 'it returns false'. Refute it at one input. -/
def originPlaysWrong : ChangeSpec := { name := "originPlays", fn := fun _ => fun
  | [d1, d2, d3] => { results := [.lit (.bool false)], args := [d1, d2, d3] }
  | _ => none }
def OriginPlaysWrongFalsely : Prop := originPlaysRow.holds Try.pinned (OpenSpec.ofChange originPlaysWrong)

/-- 'heliographlaw17.OriginNil': WHATEVER THE INPUT: true; the input reads as it did. -/
def originNilSpec : ChangeSpec := { name := "originNil", fn := fun _ => fun
  | [d] => { results := [.lit (.bool true)], args := [d] }
  | _ => none }
def originNilRow : OpenClaim := { program := "ytdihbinbkneejaa", sum := "072c67c5138223b81d58ea88526d63cd14ca68b3183d719302588017a3a541a2", func := "heliograph/heliographlaw17.OriginNil", spec := "originNil", unfollowed := true, recurses := true, apart := false }
def OriginNilSaid : Prop := originNilRow.holds Try.pinned (OpenSpec.ofChange originNilSpec)

/-- ITS FALSE NEIGHBOUR: 'it returns false'. Refute it at one input. -/
def originNilWrong : ChangeSpec := { name := "originNil", fn := fun _ => fun
  | [d] => { results := [.lit (.bool false)], args := [d] }
  | _ => none }
def OriginNilWrongFalsely : Prop := originNilRow.holds Try.pinned (OpenSpec.ofChange originNilWrong)

/- THE SECOND FORM. 'bulk': how many values and letters a reading holds, each counted each time it is reached (what is shared counts as often as it is met; a slice's spare places count too). A statement '..UptoSaid' is the law's where the arguments, and the package variables that the reading takes, are together of bulk at most 1048576: NARROWER than '..Said'. Prove '..Said' where nothing that the law and all that it calls make is longer than what came in: it says more and counts as full. Else prove '..UptoSaid'. A law counts once. -/
mutual
def uptoBulk {H : Type} : DataW H → Nat
  | .lit (.string bytes) => bytes.length + 1
  | .lit _ => 1
  | .nil => 1
  | .ptr d => uptoBulk d + 1
  | .slice elems spare => uptoBulkAll elems + uptoBulkAll spare + 1
  | .agg parts => uptoBulkAll parts + 1
  | .iface _ d => uptoBulk d + 1
  | .map entries => uptoBulkEntries entries + 1
  | .held _ => 1
def uptoBulkAll {H : Type} : List (DataW H) → Nat
  | [] => 0
  | d :: r => uptoBulk d + uptoBulkAll r
def uptoBulkEntries {H : Type} : List (Lit × DataW H) → Nat
  | [] => 0
  | x :: r => uptoBulkEntry x + uptoBulkEntries r
def uptoBulkEntry {H : Type} : Lit × DataW H → Nat
  | (.string bytes, d) => bytes.length + uptoBulk d + 1
  | (_, d) => uptoBulk d + 1
 end
def uptoSmall : (H : Type) → List (DataW H) → Bool := fun _ ds => decide (uptoBulkAll ds ≤ 1048576)
def OpenSpec.upto (s : _root_.Go.ChangeSpec) : _root_.Go.OpenSpec := { _root_.Go.OpenSpec.ofChange s with cond := some uptoSmall }

/-- 'heliographlaw17.OriginTells', WHERE WHAT IT READS IS OF BULK AT MOST 1048576: true; the input reads as it did. -/
def originTellsUptoRow : OpenClaim := { program := "ytdihbinbkneejaa", sum := "072c67c5138223b81d58ea88526d63cd14ca68b3183d719302588017a3a541a2", func := "heliograph/heliographlaw17.OriginTells", spec := "originTells", unfollowed := true, recurses := true, apart := false, narrowed := true }
def OriginTellsUptoSaid : Prop := originTellsUptoRow.holds Try.pinned (OpenSpec.upto originTellsSpec)

/-- 'heliographlaw17.OriginCausal', WHERE WHAT IT READS IS OF BULK AT MOST 1048576: true; the input reads as it did. -/
def originCausalUptoRow : OpenClaim := { program := "ytdihbinbkneejaa", sum := "072c67c5138223b81d58ea88526d63cd14ca68b3183d719302588017a3a541a2", func := "heliograph/heliographlaw17.OriginCausal", spec := "originCausal", unfollowed := true, recurses := true, apart := false, narrowed := true }
def OriginCausalUptoSaid : Prop := originCausalUptoRow.holds Try.pinned (OpenSpec.upto originCausalSpec)

/-- 'heliographlaw17.OriginTrims', WHERE WHAT IT READS IS OF BULK AT MOST 1048576: true; the input reads as it did. -/
def originTrimsUptoRow : OpenClaim := { program := "ytdihbinbkneejaa", sum := "072c67c5138223b81d58ea88526d63cd14ca68b3183d719302588017a3a541a2", func := "heliograph/heliographlaw17.OriginTrims", spec := "originTrims", unfollowed := true, recurses := true, apart := false, narrowed := true }
def OriginTrimsUptoSaid : Prop := originTrimsUptoRow.holds Try.pinned (OpenSpec.upto originTrimsSpec)

/-- 'heliographlaw17.OriginPlays', WHERE WHAT IT READS IS OF BULK AT MOST 1048576: true; the input reads as it did. -/
def originPlaysUptoRow : OpenClaim := { program := "ytdihbinbkneejaa", sum := "072c67c5138223b81d58ea88526d63cd14ca68b3183d719302588017a3a541a2", func := "heliograph/heliographlaw17.OriginPlays", spec := "originPlays", unfollowed := true, recurses := true, apart := false, narrowed := true }
def OriginPlaysUptoSaid : Prop := originPlaysUptoRow.holds Try.pinned (OpenSpec.upto originPlaysSpec)

/-- 'heliographlaw17.OriginNil', WHERE WHAT IT READS IS OF BULK AT MOST 1048576: true; the input reads as it did. -/
def originNilUptoRow : OpenClaim := { program := "ytdihbinbkneejaa", sum := "072c67c5138223b81d58ea88526d63cd14ca68b3183d719302588017a3a541a2", func := "heliograph/heliographlaw17.OriginNil", spec := "originNil", unfollowed := true, recurses := true, apart := false, narrowed := true }
def OriginNilUptoSaid : Prop := originNilUptoRow.holds Try.pinned (OpenSpec.upto originNilSpec)

end Rows
end Go.Proofs.Ytdihbinbkneejaa
