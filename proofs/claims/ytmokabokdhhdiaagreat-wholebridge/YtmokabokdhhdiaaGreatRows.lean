/-
  No cell of these rows narrows 'for every input' (looked for: loops, veiled, ifaces, maps, wideKeys, modest, calm, conditions, laid).
  DERIVED. THE GIVEN ROWS OF THIS SEAT. 5 by the template 'for every input the law returns true; each argument reads behind the call as it read before'; 0 by the template 'total and deterministic' (their statements: YtmokabokdhhdiaaGreatTotals.lean).
  GIVEN WITH THE SEED: the statements are not yours to turn. If you find one false, say at which input.
  Laid BY PROGRAM, IN A SANDBOX (cutbox-rows.mjs): the forced cells as the released guide's own fill.sh prints them over the translation 8f6fdc403f2123b4… (all of the seat's roots in one cut). By AI agents, Wed Nov 11 2026. No macro, syntax, notation, axiom, sorry.
-/
import Derived.Test.YtmokabokdhhdiaaGreatChecked
import GoSem.Claim
import GoSem.ClaimJoined
import GoSem.ClaimMapViews
import Derived.JoinedTies
import Derived.KernelRfl
namespace Go.Proofs.YtmokabokdhhdiaaGreat
/- THE CELL 'sum', in the pinned program and in every row, IS THE sha256 OF THE DUMP (.gsa) THAT YtmokabokdhhdiaaGreatProg.lean LOADS. Nothing in Lean hashes anything: it is a label: what it is worth is what the hold of that sum in a sandbox is worth. -/
noncomputable def Tryz.pinned : Pinned := { name := "ytmokabokdhhdiaagreat", sum := "8f6fdc403f2123b47dc7c43a2d7376385dcd098447b444572b2c84e5956c1f80", checked := Tryz.checked }
namespace Rows
def none {H : Type} : Left H := { results := [], args := [] }

/-- 'caraveltop.WholeBridge': WHATEVER THE INPUT: true; the input reads as it did. -/
def wholeBridgeSpec : ChangeSpec := { name := "wholeBridge", fn := fun _ => fun
  | [d1, d2] => { results := [.lit (.bool true)], args := [d1, d2] }
  | _ => none }
def wholeBridgeRow : OpenClaim := { program := "ytmokabokdhhdiaagreat", sum := "8f6fdc403f2123b47dc7c43a2d7376385dcd098447b444572b2c84e5956c1f80", func := "caravel/caraveltop.WholeBridge", spec := "wholeBridge", inPlace := ["slices.overlaps[caravel/api.Route]"], unfollowed := true, recurses := true, apart := false }
def WholeBridgeSaid : Prop := wholeBridgeRow.holds Tryz.pinned (OpenSpec.ofChange wholeBridgeSpec)

/-- ITS FALSE NEIGHBOUR: 'it returns false'. Refute it at one input. -/
def wholeBridgeWrong : ChangeSpec := { name := "wholeBridge", fn := fun _ => fun
  | [d1, d2] => { results := [.lit (.bool false)], args := [d1, d2] }
  | _ => none }
def WholeBridgeWrongFalsely : Prop := wholeBridgeRow.holds Tryz.pinned (OpenSpec.ofChange wholeBridgeWrong)

/-- 'caraveltop.WholeBytes': WHATEVER THE INPUT: true; the input reads as it did. -/
def wholeBytesSpec : ChangeSpec := { name := "wholeBytes", fn := fun _ => fun
  | [d1, d2, d3, d4, d5] => { results := [.lit (.bool true)], args := [d1, d2, d3, d4, d5] }
  | _ => none }
def wholeBytesRow : OpenClaim := { program := "ytmokabokdhhdiaagreat", sum := "8f6fdc403f2123b47dc7c43a2d7376385dcd098447b444572b2c84e5956c1f80", func := "caravel/caraveltop.WholeBytes", spec := "wholeBytes", inPlace := ["slices.overlaps[caravel/api.Route]"], unfollowed := true, recurses := true, apart := false }
def WholeBytesSaid : Prop := wholeBytesRow.holds Tryz.pinned (OpenSpec.ofChange wholeBytesSpec)

/-- ITS FALSE NEIGHBOUR: 'it returns false'. Refute it at one input. -/
def wholeBytesWrong : ChangeSpec := { name := "wholeBytes", fn := fun _ => fun
  | [d1, d2, d3, d4, d5] => { results := [.lit (.bool false)], args := [d1, d2, d3, d4, d5] }
  | _ => none }
def WholeBytesWrongFalsely : Prop := wholeBytesRow.holds Tryz.pinned (OpenSpec.ofChange wholeBytesWrong)

/-- 'caraveltop.WholeQueues': WHATEVER THE INPUT: true; the input reads as it did. -/
def wholeQueuesSpec : ChangeSpec := { name := "wholeQueues", fn := fun _ => fun
  | [d1, d2] => { results := [.lit (.bool true)], args := [d1, d2] }
  | _ => none }
def wholeQueuesRow : OpenClaim := { program := "ytmokabokdhhdiaagreat", sum := "8f6fdc403f2123b47dc7c43a2d7376385dcd098447b444572b2c84e5956c1f80", func := "caravel/caraveltop.WholeQueues", spec := "wholeQueues", inPlace := ["slices.overlaps[caravel/api.Route]"], unfollowed := true, recurses := true, apart := false }
def WholeQueuesSaid : Prop := wholeQueuesRow.holds Tryz.pinned (OpenSpec.ofChange wholeQueuesSpec)

/-- ITS FALSE NEIGHBOUR: 'it returns false'. Refute it at one input. -/
def wholeQueuesWrong : ChangeSpec := { name := "wholeQueues", fn := fun _ => fun
  | [d1, d2] => { results := [.lit (.bool false)], args := [d1, d2] }
  | _ => none }
def WholeQueuesWrongFalsely : Prop := wholeQueuesRow.holds Tryz.pinned (OpenSpec.ofChange wholeQueuesWrong)

/-- 'caraveltop.WholeEnds': WHATEVER THE INPUT: true; the input reads as it did. -/
def wholeEndsSpec : ChangeSpec := { name := "wholeEnds", fn := fun _ => fun
  | [d1, d2] => { results := [.lit (.bool true)], args := [d1, d2] }
  | _ => none }
def wholeEndsRow : OpenClaim := { program := "ytmokabokdhhdiaagreat", sum := "8f6fdc403f2123b47dc7c43a2d7376385dcd098447b444572b2c84e5956c1f80", func := "caravel/caraveltop.WholeEnds", spec := "wholeEnds", inPlace := ["slices.overlaps[caravel/api.Route]"], unfollowed := true, recurses := true, apart := false }
def WholeEndsSaid : Prop := wholeEndsRow.holds Tryz.pinned (OpenSpec.ofChange wholeEndsSpec)

/-- ITS FALSE NEIGHBOUR: 'it returns false'. Refute it at one input. -/
def wholeEndsWrong : ChangeSpec := { name := "wholeEnds", fn := fun _ => fun
  | [d1, d2] => { results := [.lit (.bool false)], args := [d1, d2] }
  | _ => none }
def WholeEndsWrongFalsely : Prop := wholeEndsRow.holds Tryz.pinned (OpenSpec.ofChange wholeEndsWrong)

/-- 'caraveltop.WholeSocks': WHATEVER THE INPUT: true; the input reads as it did. -/
def wholeSocksSpec : ChangeSpec := { name := "wholeSocks", fn := fun _ => fun
  | [d] => { results := [.lit (.bool true)], args := [d] }
  | _ => none }
def wholeSocksRow : OpenClaim := { program := "ytmokabokdhhdiaagreat", sum := "8f6fdc403f2123b47dc7c43a2d7376385dcd098447b444572b2c84e5956c1f80", func := "caravel/caraveltop.WholeSocks", spec := "wholeSocks", inPlace := ["slices.overlaps[caravel/api.Route]"], unfollowed := true, recurses := true, apart := false }
def WholeSocksSaid : Prop := wholeSocksRow.holds Tryz.pinned (OpenSpec.ofChange wholeSocksSpec)

/-- ITS FALSE NEIGHBOUR: 'it returns false'. Refute it at one input. -/
def wholeSocksWrong : ChangeSpec := { name := "wholeSocks", fn := fun _ => fun
  | [d] => { results := [.lit (.bool false)], args := [d] }
  | _ => none }
def WholeSocksWrongFalsely : Prop := wholeSocksRow.holds Tryz.pinned (OpenSpec.ofChange wholeSocksWrong)

/- THE SECOND FORM. 'bulk': how many values and letters a reading holds, each counted each time it is reached (what is shared counts as often as it is met; a slice's spare places count too). A statement '..UptoSaid' is the law's where the arguments, and the package variables that the reading takes, are together of bulk at most 1048576: NARROWER than '..Said'. Prove '..Said' where nothing that the law and all that it calls make is longer than what came in: it says more and counts as full. Else prove '..UptoSaid'. A law counts once. -/
mutual
def uptoBulk {H : Type} : DataW H → Nat
  | .lit (.string bytes) => bytes.length + 1
  | .lit _ => 1
  | .nil => 1
  | .ptr d => uptoBulk d + 1
  | .slice elems spare => uptoBulkAll elems + uptoBulkAll spare + 1
  | .agg parts => uptoBulkAll parts + 1
  | .iface _ d => uptoBulk d + 1
  | .map entries => uptoBulkEntries entries + 1
  | .held _ => 1
def uptoBulkAll {H : Type} : List (DataW H) → Nat
  | [] => 0
  | d :: r => uptoBulk d + uptoBulkAll r
def uptoBulkEntries {H : Type} : List (Lit × DataW H) → Nat
  | [] => 0
  | x :: r => uptoBulkEntry x + uptoBulkEntries r
def uptoBulkEntry {H : Type} : Lit × DataW H → Nat
  | (.string bytes, d) => bytes.length + uptoBulk d + 1
  | (_, d) => uptoBulk d + 1
 end
def uptoSmall : (H : Type) → List (DataW H) → Bool := fun _ ds => decide (uptoBulkAll ds ≤ 1048576)
def OpenSpec.upto (s : _root_.Go.ChangeSpec) : _root_.Go.OpenSpec := { _root_.Go.OpenSpec.ofChange s with cond := some uptoSmall }

/-- 'caraveltop.WholeBridge', WHERE WHAT IT READS IS OF BULK AT MOST 1048576: true; the input reads as it did. -/
def wholeBridgeUptoRow : OpenClaim := { program := "ytmokabokdhhdiaagreat", sum := "8f6fdc403f2123b47dc7c43a2d7376385dcd098447b444572b2c84e5956c1f80", func := "caravel/caraveltop.WholeBridge", spec := "wholeBridge", inPlace := ["slices.overlaps[caravel/api.Route]"], unfollowed := true, recurses := true, apart := false, narrowed := true }
def WholeBridgeUptoSaid : Prop := wholeBridgeUptoRow.holds Tryz.pinned (OpenSpec.upto wholeBridgeSpec)

/-- 'caraveltop.WholeBytes', WHERE WHAT IT READS IS OF BULK AT MOST 1048576: true; the input reads as it did. -/
def wholeBytesUptoRow : OpenClaim := { program := "ytmokabokdhhdiaagreat", sum := "8f6fdc403f2123b47dc7c43a2d7376385dcd098447b444572b2c84e5956c1f80", func := "caravel/caraveltop.WholeBytes", spec := "wholeBytes", inPlace := ["slices.overlaps[caravel/api.Route]"], unfollowed := true, recurses := true, apart := false, narrowed := true }
def WholeBytesUptoSaid : Prop := wholeBytesUptoRow.holds Tryz.pinned (OpenSpec.upto wholeBytesSpec)

/-- 'caraveltop.WholeQueues', WHERE WHAT IT READS IS OF BULK AT MOST 1048576: true; the input reads as it did. -/
def wholeQueuesUptoRow : OpenClaim := { program := "ytmokabokdhhdiaagreat", sum := "8f6fdc403f2123b47dc7c43a2d7376385dcd098447b444572b2c84e5956c1f80", func := "caravel/caraveltop.WholeQueues", spec := "wholeQueues", inPlace := ["slices.overlaps[caravel/api.Route]"], unfollowed := true, recurses := true, apart := false, narrowed := true }
def WholeQueuesUptoSaid : Prop := wholeQueuesUptoRow.holds Tryz.pinned (OpenSpec.upto wholeQueuesSpec)

/-- 'caraveltop.WholeEnds', WHERE WHAT IT READS IS OF BULK AT MOST 1048576: true; the input reads as it did. -/
def wholeEndsUptoRow : OpenClaim := { program := "ytmokabokdhhdiaagreat", sum := "8f6fdc403f2123b47dc7c43a2d7376385dcd098447b444572b2c84e5956c1f80", func := "caravel/caraveltop.WholeEnds", spec := "wholeEnds", inPlace := ["slices.overlaps[caravel/api.Route]"], unfollowed := true, recurses := true, apart := false, narrowed := true }
def WholeEndsUptoSaid : Prop := wholeEndsUptoRow.holds Tryz.pinned (OpenSpec.upto wholeEndsSpec)

/-- 'caraveltop.WholeSocks', WHERE WHAT IT READS IS OF BULK AT MOST 1048576: true; the input reads as it did. -/
def wholeSocksUptoRow : OpenClaim := { program := "ytmokabokdhhdiaagreat", sum := "8f6fdc403f2123b47dc7c43a2d7376385dcd098447b444572b2c84e5956c1f80", func := "caravel/caraveltop.WholeSocks", spec := "wholeSocks", inPlace := ["slices.overlaps[caravel/api.Route]"], unfollowed := true, recurses := true, apart := false, narrowed := true }
def WholeSocksUptoSaid : Prop := wholeSocksUptoRow.holds Tryz.pinned (OpenSpec.upto wholeSocksSpec)

end Rows
end Go.Proofs.YtmokabokdhhdiaaGreat
