/-
  No cell of these rows narrows 'for every input' (looked for: loops, veiled, ifaces, maps, wideKeys, modest, calm, conditions, laid).
  DERIVED. THE GIVEN ROWS OF THIS SEAT. 5 by the template 'for every input the law returns true; each argument reads behind the call as it read before'; 0 by the template 'total and deterministic' (their statements: YtglabahbklpocaaTotals.lean).
  GIVEN WITH THE SEED: the statements are not yours to turn. If you find one false, say at which input.
  Laid BY PROGRAM, IN A SANDBOX (cutbox-rows.mjs): the forced cells as the released guide's own fill.sh prints them over the translation afe3da062c6e6887… (all of the seat's roots in one cut). By AI agents, Wed Nov 11 2026. No macro, syntax, notation, axiom, sorry.
-/
import Derived.Test.YtglabahbklpocaaChecked
import GoSem.Claim
import GoSem.ClaimJoined
import GoSem.ClaimMapViews
import Derived.JoinedTies
import Derived.KernelRfl
namespace Go.Proofs.Ytglabahbklpocaa
/- THE CELL 'sum', in the pinned program and in every row, IS THE sha256 OF THE DUMP (.gsa) THAT YtglabahbklpocaaProg.lean LOADS. Nothing in Lean hashes anything: it is a label: what it is worth is what the hold of that sum in a sandbox is worth. -/
noncomputable def Try.pinned : Pinned := { name := "ytglabahbklpocaa", sum := "afe3da062c6e68870472b65193820807e02a10bda74019b0e1656385abaf12f4", checked := Try.checked }
namespace Rows
def none {H : Type} : Left H := { results := [], args := [] }

/-- 'heliographlaw19.ShipTurns': WHATEVER THE INPUT: true; the input reads as it did. -/
def shipTurnsSpec : ChangeSpec := { name := "shipTurns", fn := fun _ => fun
  | [d1, d2, d3] => { results := [.lit (.bool true)], args := [d1, d2, d3] }
  | _ => none }
def shipTurnsRow : OpenClaim := { program := "ytglabahbklpocaa", sum := "afe3da062c6e68870472b65193820807e02a10bda74019b0e1656385abaf12f4", func := "heliograph/heliographlaw19.ShipTurns", spec := "shipTurns", inPlace := ["internal/abi.NoEscape"], unfollowed := true, recurses := true, apart := false }
def ShipTurnsSaid : Prop := shipTurnsRow.holds Try.pinned (OpenSpec.ofChange shipTurnsSpec)

/-- ITS FALSE NEIGHBOUR: 'it returns false'. Refute it at one input. -/
def shipTurnsWrong : ChangeSpec := { name := "shipTurns", fn := fun _ => fun
  | [d1, d2, d3] => { results := [.lit (.bool false)], args := [d1, d2, d3] }
  | _ => none }
def ShipTurnsWrongFalsely : Prop := shipTurnsRow.holds Try.pinned (OpenSpec.ofChange shipTurnsWrong)

/-- 'heliographlaw19.ShipPeers': WHATEVER THE INPUT: true; the input reads as it did. -/
def shipPeersSpec : ChangeSpec := { name := "shipPeers", fn := fun _ => fun
  | [d1, d2, d3] => { results := [.lit (.bool true)], args := [d1, d2, d3] }
  | _ => none }
def shipPeersRow : OpenClaim := { program := "ytglabahbklpocaa", sum := "afe3da062c6e68870472b65193820807e02a10bda74019b0e1656385abaf12f4", func := "heliograph/heliographlaw19.ShipPeers", spec := "shipPeers", inPlace := ["internal/abi.NoEscape"], unfollowed := true, recurses := true, apart := false }
def ShipPeersSaid : Prop := shipPeersRow.holds Try.pinned (OpenSpec.ofChange shipPeersSpec)

/-- ITS FALSE NEIGHBOUR: 'it returns false'. Refute it at one input. -/
def shipPeersWrong : ChangeSpec := { name := "shipPeers", fn := fun _ => fun
  | [d1, d2, d3] => { results := [.lit (.bool false)], args := [d1, d2, d3] }
  | _ => none }
def ShipPeersWrongFalsely : Prop := shipPeersRow.holds Try.pinned (OpenSpec.ofChange shipPeersWrong)

/-- 'heliographlaw19.ShipLeast': WHATEVER THE INPUT: true; the input reads as it did. -/
def shipLeastSpec : ChangeSpec := { name := "shipLeast", fn := fun _ => fun
  | [d1, d2] => { results := [.lit (.bool true)], args := [d1, d2] }
  | _ => none }
def shipLeastRow : OpenClaim := { program := "ytglabahbklpocaa", sum := "afe3da062c6e68870472b65193820807e02a10bda74019b0e1656385abaf12f4", func := "heliograph/heliographlaw19.ShipLeast", spec := "shipLeast", inPlace := ["internal/abi.NoEscape"], unfollowed := true, recurses := true, apart := false }
def ShipLeastSaid : Prop := shipLeastRow.holds Try.pinned (OpenSpec.ofChange shipLeastSpec)

/-- ITS FALSE NEIGHBOUR: 'it returns false'. Refute it at one input. -/
def shipLeastWrong : ChangeSpec := { name := "shipLeast", fn := fun _ => fun
  | [d1, d2] => { results := [.lit (.bool false)], args := [d1, d2] }
  | _ => none }
def ShipLeastWrongFalsely : Prop := shipLeastRow.holds Try.pinned (OpenSpec.ofChange shipLeastWrong)

/-- 'heliographlaw19.ShipNil': WHATEVER THE INPUT: true; the input reads as it did. -/
def shipNilSpec : ChangeSpec := { name := "shipNil", fn := fun _ => fun
  | [d] => { results := [.lit (.bool true)], args := [d] }
  | _ => none }
def shipNilRow : OpenClaim := { program := "ytglabahbklpocaa", sum := "afe3da062c6e68870472b65193820807e02a10bda74019b0e1656385abaf12f4", func := "heliograph/heliographlaw19.ShipNil", spec := "shipNil", inPlace := ["internal/abi.NoEscape"], unfollowed := true, recurses := true, apart := false }
def ShipNilSaid : Prop := shipNilRow.holds Try.pinned (OpenSpec.ofChange shipNilSpec)

/-- ITS FALSE NEIGHBOUR: 'it returns false'. Refute it at one input. -/
def shipNilWrong : ChangeSpec := { name := "shipNil", fn := fun _ => fun
  | [d] => { results := [.lit (.bool false)], args := [d] }
  | _ => none }
def ShipNilWrongFalsely : Prop := shipNilRow.holds Try.pinned (OpenSpec.ofChange shipNilWrong)

/-- 'heliographlaw19.ShipMany': WHATEVER THE INPUT: true; the input reads as it did. -/
def shipManySpec : ChangeSpec := { name := "shipMany", fn := fun _ => fun
  | [d] => { results := [.lit (.bool true)], args := [d] }
  | _ => none }
def shipManyRow : OpenClaim := { program := "ytglabahbklpocaa", sum := "afe3da062c6e68870472b65193820807e02a10bda74019b0e1656385abaf12f4", func := "heliograph/heliographlaw19.ShipMany", spec := "shipMany", inPlace := ["internal/abi.NoEscape"], unfollowed := true, recurses := true, apart := false }
def ShipManySaid : Prop := shipManyRow.holds Try.pinned (OpenSpec.ofChange shipManySpec)

/-- ITS FALSE NEIGHBOUR: 'it returns false'. Refute it at one input. -/
def shipManyWrong : ChangeSpec := { name := "shipMany", fn := fun _ => fun
  | [d] => { results := [.lit (.bool false)], args := [d] }
  | _ => none }
def ShipManyWrongFalsely : Prop := shipManyRow.holds Try.pinned (OpenSpec.ofChange shipManyWrong)

/- THE SECOND FORM. 'bulk': how many values and letters a reading holds, each counted each time it is reached (what is shared counts as often as it is met; a slice's spare places count too). A statement '..UptoSaid' is the law's where the arguments, and the package variables that the reading takes, are together of bulk at most 1048576: NARROWER than '..Said'. Prove '..Said' where nothing that the law and all that it calls make is longer than what came in: it says more and counts as full. Else prove '..UptoSaid'. A law counts once. -/
mutual
def uptoBulk {H : Type} : DataW H → Nat
  | .lit (.string bytes) => bytes.length + 1
  | .lit _ => 1
  | .nil => 1
  | .ptr d => uptoBulk d + 1
  | .slice elems spare => uptoBulkAll elems + uptoBulkAll spare + 1
  | .agg parts => uptoBulkAll parts + 1
  | .iface _ d => uptoBulk d + 1
  | .map entries => uptoBulkEntries entries + 1
  | .held _ => 1
def uptoBulkAll {H : Type} : List (DataW H) → Nat
  | [] => 0
  | d :: r => uptoBulk d + uptoBulkAll r
def uptoBulkEntries {H : Type} : List (Lit × DataW H) → Nat
  | [] => 0
  | x :: r => uptoBulkEntry x + uptoBulkEntries r
def uptoBulkEntry {H : Type} : Lit × DataW H → Nat
  | (.string bytes, d) => bytes.length + uptoBulk d + 1
  | (_, d) => uptoBulk d + 1
 end
def uptoSmall : (H : Type) → List (DataW H) → Bool := fun _ ds => decide (uptoBulkAll ds ≤ 1048576)
def OpenSpec.upto (s : _root_.Go.ChangeSpec) : _root_.Go.OpenSpec := { _root_.Go.OpenSpec.ofChange s with cond := some uptoSmall }

/-- 'heliographlaw19.ShipTurns', WHERE WHAT IT READS IS OF BULK AT MOST 1048576: true; the input reads as it did. -/
def shipTurnsUptoRow : OpenClaim := { program := "ytglabahbklpocaa", sum := "afe3da062c6e68870472b65193820807e02a10bda74019b0e1656385abaf12f4", func := "heliograph/heliographlaw19.ShipTurns", spec := "shipTurns", inPlace := ["internal/abi.NoEscape"], unfollowed := true, recurses := true, apart := false, narrowed := true }
def ShipTurnsUptoSaid : Prop := shipTurnsUptoRow.holds Try.pinned (OpenSpec.upto shipTurnsSpec)

/-- 'heliographlaw19.ShipPeers', WHERE WHAT IT READS IS OF BULK AT MOST 1048576: true; the input reads as it did. -/
def shipPeersUptoRow : OpenClaim := { program := "ytglabahbklpocaa", sum := "afe3da062c6e68870472b65193820807e02a10bda74019b0e1656385abaf12f4", func := "heliograph/heliographlaw19.ShipPeers", spec := "shipPeers", inPlace := ["internal/abi.NoEscape"], unfollowed := true, recurses := true, apart := false, narrowed := true }
def ShipPeersUptoSaid : Prop := shipPeersUptoRow.holds Try.pinned (OpenSpec.upto shipPeersSpec)

/-- 'heliographlaw19.ShipLeast', WHERE WHAT IT READS IS OF BULK AT MOST 1048576: true; the input reads as it did. -/
def shipLeastUptoRow : OpenClaim := { program := "ytglabahbklpocaa", sum := "afe3da062c6e68870472b65193820807e02a10bda74019b0e1656385abaf12f4", func := "heliograph/heliographlaw19.ShipLeast", spec := "shipLeast", inPlace := ["internal/abi.NoEscape"], unfollowed := true, recurses := true, apart := false, narrowed := true }
def ShipLeastUptoSaid : Prop := shipLeastUptoRow.holds Try.pinned (OpenSpec.upto shipLeastSpec)

/-- 'heliographlaw19.ShipNil', WHERE WHAT IT READS IS OF BULK AT MOST 1048576: true; the input reads as it did. -/
def shipNilUptoRow : OpenClaim := { program := "ytglabahbklpocaa", sum := "afe3da062c6e68870472b65193820807e02a10bda74019b0e1656385abaf12f4", func := "heliograph/heliographlaw19.ShipNil", spec := "shipNil", inPlace := ["internal/abi.NoEscape"], unfollowed := true, recurses := true, apart := false, narrowed := true }
def ShipNilUptoSaid : Prop := shipNilUptoRow.holds Try.pinned (OpenSpec.upto shipNilSpec)

/-- 'heliographlaw19.ShipMany', WHERE WHAT IT READS IS OF BULK AT MOST 1048576: true; the input reads as it did. -/
def shipManyUptoRow : OpenClaim := { program := "ytglabahbklpocaa", sum := "afe3da062c6e68870472b65193820807e02a10bda74019b0e1656385abaf12f4", func := "heliograph/heliographlaw19.ShipMany", spec := "shipMany", inPlace := ["internal/abi.NoEscape"], unfollowed := true, recurses := true, apart := false, narrowed := true }
def ShipManyUptoSaid : Prop := shipManyUptoRow.holds Try.pinned (OpenSpec.upto shipManySpec)

end Rows
end Go.Proofs.Ytglabahbklpocaa
