/-
  No cell of these rows narrows 'for every input' (looked for: loops, veiled, ifaces, maps, wideKeys, modest, calm, conditions, laid).
  DERIVED. THE GIVEN ROWS OF THIS SEAT. 12 by the template 'for every input the law returns true; each argument reads behind the call as it read before'; 0 by the template 'total and deterministic' (their statements: YthmifcbhbcjeiaaTotals.lean).
  GIVEN WITH THE SEED: the statements are not yours to turn. If you find one false, say at which input.
  Laid BY PROGRAM, IN A SANDBOX (cutbox-rows.mjs): the forced cells as the released guide's own fill.sh prints them over the translation bc50ea094c42570a… (all of the seat's roots in one cut). By AI agents, Wed Nov 11 2026. No macro, syntax, notation, axiom, sorry.
-/
import Derived.Test.YthmifcbhbcjeiaaChecked
import GoSem.Claim
import GoSem.ClaimJoined
import GoSem.ClaimMapViews
import Derived.JoinedTies
import Derived.KernelRfl
namespace Go.Proofs.Ythmifcbhbcjeiaa
/- THE CELL 'sum', in the pinned program and in every row, IS THE sha256 OF THE DUMP (.gsa) THAT YthmifcbhbcjeiaaProg.lean LOADS. Nothing in Lean hashes anything: it is a label: what it is worth is what the hold of that sum in a sandbox is worth. -/
noncomputable def Try.pinned : Pinned := { name := "ythmifcbhbcjeiaa", sum := "bc50ea094c42570a9157c6285ab09904859588a833ffbdab2eb31a930fd32c4e", checked := Try.checked }
namespace Rows
def none {H : Type} : Left H := { results := [], args := [] }

/-- 'suturelaw12.NodesRacks': WHATEVER THE INPUT: true; the input reads as it did. -/
def nodesRacksSpec : ChangeSpec := { name := "nodesRacks", fn := fun _ => fun
  | [d1, d2, d3] => { results := [.lit (.bool true)], args := [d1, d2, d3] }
  | _ => none }
def nodesRacksRow : OpenClaim := { program := "ythmifcbhbcjeiaa", sum := "bc50ea094c42570a9157c6285ab09904859588a833ffbdab2eb31a930fd32c4e", func := "suture/suturelaw12.NodesRacks", spec := "nodesRacks", unfollowed := true, recurses := true, apart := false }
def NodesRacksSaid : Prop := nodesRacksRow.holds Try.pinned (OpenSpec.ofChange nodesRacksSpec)

/-- ITS FALSE NEIGHBOUR: 'it returns false'. Refute it at one input. -/
def nodesRacksWrong : ChangeSpec := { name := "nodesRacks", fn := fun _ => fun
  | [d1, d2, d3] => { results := [.lit (.bool false)], args := [d1, d2, d3] }
  | _ => none }
def NodesRacksWrongFalsely : Prop := nodesRacksRow.holds Try.pinned (OpenSpec.ofChange nodesRacksWrong)

/-- 'suturelaw12.NodesTell': WHATEVER THE INPUT: true; the input reads as it did. -/
def nodesTellSpec : ChangeSpec := { name := "nodesTell", fn := fun _ => fun
  | [d1, d2, d3, d4] => { results := [.lit (.bool true)], args := [d1, d2, d3, d4] }
  | _ => none }
def nodesTellRow : OpenClaim := { program := "ythmifcbhbcjeiaa", sum := "bc50ea094c42570a9157c6285ab09904859588a833ffbdab2eb31a930fd32c4e", func := "suture/suturelaw12.NodesTell", spec := "nodesTell", unfollowed := true, recurses := true, apart := false }
def NodesTellSaid : Prop := nodesTellRow.holds Try.pinned (OpenSpec.ofChange nodesTellSpec)

/-- ITS FALSE NEIGHBOUR: 'it returns false'. Refute it at one input. -/
def nodesTellWrong : ChangeSpec := { name := "nodesTell", fn := fun _ => fun
  | [d1, d2, d3, d4] => { results := [.lit (.bool false)], args := [d1, d2, d3, d4] }
  | _ => none }
def NodesTellWrongFalsely : Prop := nodesTellRow.holds Try.pinned (OpenSpec.ofChange nodesTellWrong)

/-- 'suturelaw12.NodesStates': WHATEVER THE INPUT: true; the input reads as it did. -/
def nodesStatesSpec : ChangeSpec := { name := "nodesStates", fn := fun _ => fun
  | [d1, d2] => { results := [.lit (.bool true)], args := [d1, d2] }
  | _ => none }
def nodesStatesRow : OpenClaim := { program := "ythmifcbhbcjeiaa", sum := "bc50ea094c42570a9157c6285ab09904859588a833ffbdab2eb31a930fd32c4e", func := "suture/suturelaw12.NodesStates", spec := "nodesStates", unfollowed := true, recurses := true, apart := false }
def NodesStatesSaid : Prop := nodesStatesRow.holds Try.pinned (OpenSpec.ofChange nodesStatesSpec)

/-- ITS FALSE NEIGHBOUR: 'it returns false'. Refute it at one input. -/
def nodesStatesWrong : ChangeSpec := { name := "nodesStates", fn := fun _ => fun
  | [d1, d2] => { results := [.lit (.bool false)], args := [d1, d2] }
  | _ => none }
def NodesStatesWrongFalsely : Prop := nodesStatesRow.holds Try.pinned (OpenSpec.ofChange nodesStatesWrong)

/-- 'suturelaw12.NodesGone': WHATEVER THE INPUT: true; the input reads as it did. -/
def nodesGoneSpec : ChangeSpec := { name := "nodesGone", fn := fun _ => fun
  | [d1, d2] => { results := [.lit (.bool true)], args := [d1, d2] }
  | _ => none }
def nodesGoneRow : OpenClaim := { program := "ythmifcbhbcjeiaa", sum := "bc50ea094c42570a9157c6285ab09904859588a833ffbdab2eb31a930fd32c4e", func := "suture/suturelaw12.NodesGone", spec := "nodesGone", unfollowed := true, recurses := true, apart := false }
def NodesGoneSaid : Prop := nodesGoneRow.holds Try.pinned (OpenSpec.ofChange nodesGoneSpec)

/-- ITS FALSE NEIGHBOUR: 'it returns false'. Refute it at one input. -/
def nodesGoneWrong : ChangeSpec := { name := "nodesGone", fn := fun _ => fun
  | [d1, d2] => { results := [.lit (.bool false)], args := [d1, d2] }
  | _ => none }
def NodesGoneWrongFalsely : Prop := nodesGoneRow.holds Try.pinned (OpenSpec.ofChange nodesGoneWrong)

/-- 'suturelaw16.PlaceMay': WHATEVER THE INPUT: true; the input reads as it did. -/
def placeMaySpec : ChangeSpec := { name := "placeMay", fn := fun _ => fun
  | [d1, d2, d3, d4, d5] => { results := [.lit (.bool true)], args := [d1, d2, d3, d4, d5] }
  | _ => none }
def placeMayRow : OpenClaim := { program := "ythmifcbhbcjeiaa", sum := "bc50ea094c42570a9157c6285ab09904859588a833ffbdab2eb31a930fd32c4e", func := "suture/suturelaw16.PlaceMay", spec := "placeMay", unfollowed := true, recurses := true, apart := false }
def PlaceMaySaid : Prop := placeMayRow.holds Try.pinned (OpenSpec.ofChange placeMaySpec)

/-- ITS FALSE NEIGHBOUR: 'it returns false'. Refute it at one input. -/
def placeMayWrong : ChangeSpec := { name := "placeMay", fn := fun _ => fun
  | [d1, d2, d3, d4, d5] => { results := [.lit (.bool false)], args := [d1, d2, d3, d4, d5] }
  | _ => none }
def PlaceMayWrongFalsely : Prop := placeMayRow.holds Try.pinned (OpenSpec.ofChange placeMayWrong)

/-- 'suturelaw16.PlaceRacks': WHATEVER THE INPUT: true; the input reads as it did. -/
def placeRacksSpec : ChangeSpec := { name := "placeRacks", fn := fun _ => fun
  | [d1, d2, d3, d4, d5] => { results := [.lit (.bool true)], args := [d1, d2, d3, d4, d5] }
  | _ => none }
def placeRacksRow : OpenClaim := { program := "ythmifcbhbcjeiaa", sum := "bc50ea094c42570a9157c6285ab09904859588a833ffbdab2eb31a930fd32c4e", func := "suture/suturelaw16.PlaceRacks", spec := "placeRacks", unfollowed := true, recurses := true, apart := false }
def PlaceRacksSaid : Prop := placeRacksRow.holds Try.pinned (OpenSpec.ofChange placeRacksSpec)

/-- ITS FALSE NEIGHBOUR: 'it returns false'. Refute it at one input. -/
def placeRacksWrong : ChangeSpec := { name := "placeRacks", fn := fun _ => fun
  | [d1, d2, d3, d4, d5] => { results := [.lit (.bool false)], args := [d1, d2, d3, d4, d5] }
  | _ => none }
def PlaceRacksWrongFalsely : Prop := placeRacksRow.holds Try.pinned (OpenSpec.ofChange placeRacksWrong)

/-- 'suturelaw12.NodesThere': WHATEVER THE INPUT: true; the input reads as it did. -/
def nodesThereSpec : ChangeSpec := { name := "nodesThere", fn := fun _ => fun
  | [d1, d2, d3] => { results := [.lit (.bool true)], args := [d1, d2, d3] }
  | _ => none }
def nodesThereRow : OpenClaim := { program := "ythmifcbhbcjeiaa", sum := "bc50ea094c42570a9157c6285ab09904859588a833ffbdab2eb31a930fd32c4e", func := "suture/suturelaw12.NodesThere", spec := "nodesThere", inPlace := ["slices.overlaps[suture/api.Node]"], unfollowed := true, recurses := true, apart := false }
def NodesThereSaid : Prop := nodesThereRow.holds Try.pinned (OpenSpec.ofChange nodesThereSpec)

/-- ITS FALSE NEIGHBOUR: 'it returns false'. Refute it at one input. -/
def nodesThereWrong : ChangeSpec := { name := "nodesThere", fn := fun _ => fun
  | [d1, d2, d3] => { results := [.lit (.bool false)], args := [d1, d2, d3] }
  | _ => none }
def NodesThereWrongFalsely : Prop := nodesThereRow.holds Try.pinned (OpenSpec.ofChange nodesThereWrong)

/-- 'suturelaw12.NodesChange': WHATEVER THE INPUT: true; the input reads as it did. -/
def nodesChangeSpec : ChangeSpec := { name := "nodesChange", fn := fun _ => fun
  | [d1, d2, d3, d4] => { results := [.lit (.bool true)], args := [d1, d2, d3, d4] }
  | _ => none }
def nodesChangeRow : OpenClaim := { program := "ythmifcbhbcjeiaa", sum := "bc50ea094c42570a9157c6285ab09904859588a833ffbdab2eb31a930fd32c4e", func := "suture/suturelaw12.NodesChange", spec := "nodesChange", inPlace := ["slices.overlaps[suture/api.Node]"], unfollowed := true, recurses := true, apart := false }
def NodesChangeSaid : Prop := nodesChangeRow.holds Try.pinned (OpenSpec.ofChange nodesChangeSpec)

/-- ITS FALSE NEIGHBOUR: 'it returns false'. Refute it at one input. -/
def nodesChangeWrong : ChangeSpec := { name := "nodesChange", fn := fun _ => fun
  | [d1, d2, d3, d4] => { results := [.lit (.bool false)], args := [d1, d2, d3, d4] }
  | _ => none }
def NodesChangeWrongFalsely : Prop := nodesChangeRow.holds Try.pinned (OpenSpec.ofChange nodesChangeWrong)

/-- 'suturelaw16.PlaceTargets': WHATEVER THE INPUT: true; the input reads as it did. -/
def placeTargetsSpec : ChangeSpec := { name := "placeTargets", fn := fun _ => fun
  | [d1, d2, d3, d4, d5, d6] => { results := [.lit (.bool true)], args := [d1, d2, d3, d4, d5, d6] }
  | _ => none }
def placeTargetsRow : OpenClaim := { program := "ythmifcbhbcjeiaa", sum := "bc50ea094c42570a9157c6285ab09904859588a833ffbdab2eb31a930fd32c4e", func := "suture/suturelaw16.PlaceTargets", spec := "placeTargets", inPlace := ["slices.overlaps[suture/api.Load]"], unfollowed := true, recurses := true, apart := false }
def PlaceTargetsSaid : Prop := placeTargetsRow.holds Try.pinned (OpenSpec.ofChange placeTargetsSpec)

/-- ITS FALSE NEIGHBOUR: 'it returns false'. Refute it at one input. -/
def placeTargetsWrong : ChangeSpec := { name := "placeTargets", fn := fun _ => fun
  | [d1, d2, d3, d4, d5, d6] => { results := [.lit (.bool false)], args := [d1, d2, d3, d4, d5, d6] }
  | _ => none }
def PlaceTargetsWrongFalsely : Prop := placeTargetsRow.holds Try.pinned (OpenSpec.ofChange placeTargetsWrong)

/-- 'suturelaw16.PlaceMany': WHATEVER THE INPUT: true; the input reads as it did. -/
def placeManySpec : ChangeSpec := { name := "placeMany", fn := fun _ => fun
  | [d1, d2, d3, d4, d5, d6] => { results := [.lit (.bool true)], args := [d1, d2, d3, d4, d5, d6] }
  | _ => none }
def placeManyRow : OpenClaim := { program := "ythmifcbhbcjeiaa", sum := "bc50ea094c42570a9157c6285ab09904859588a833ffbdab2eb31a930fd32c4e", func := "suture/suturelaw16.PlaceMany", spec := "placeMany", inPlace := ["slices.overlaps[suture/api.Load]"], unfollowed := true, recurses := true, apart := false }
def PlaceManySaid : Prop := placeManyRow.holds Try.pinned (OpenSpec.ofChange placeManySpec)

/-- ITS FALSE NEIGHBOUR: 'it returns false'. Refute it at one input. -/
def placeManyWrong : ChangeSpec := { name := "placeMany", fn := fun _ => fun
  | [d1, d2, d3, d4, d5, d6] => { results := [.lit (.bool false)], args := [d1, d2, d3, d4, d5, d6] }
  | _ => none }
def PlaceManyWrongFalsely : Prop := placeManyRow.holds Try.pinned (OpenSpec.ofChange placeManyWrong)

/-- 'suturelaw16.PlaceRoom': WHATEVER THE INPUT: true; the input reads as it did. -/
def placeRoomSpec : ChangeSpec := { name := "placeRoom", fn := fun _ => fun
  | [d1, d2, d3, d4, d5, d6] => { results := [.lit (.bool true)], args := [d1, d2, d3, d4, d5, d6] }
  | _ => none }
def placeRoomRow : OpenClaim := { program := "ythmifcbhbcjeiaa", sum := "bc50ea094c42570a9157c6285ab09904859588a833ffbdab2eb31a930fd32c4e", func := "suture/suturelaw16.PlaceRoom", spec := "placeRoom", inPlace := ["slices.overlaps[suture/api.Load]"], unfollowed := true, recurses := true, apart := false }
def PlaceRoomSaid : Prop := placeRoomRow.holds Try.pinned (OpenSpec.ofChange placeRoomSpec)

/-- ITS FALSE NEIGHBOUR: 'it returns false'. Refute it at one input. -/
def placeRoomWrong : ChangeSpec := { name := "placeRoom", fn := fun _ => fun
  | [d1, d2, d3, d4, d5, d6] => { results := [.lit (.bool false)], args := [d1, d2, d3, d4, d5, d6] }
  | _ => none }
def PlaceRoomWrongFalsely : Prop := placeRoomRow.holds Try.pinned (OpenSpec.ofChange placeRoomWrong)

/-- 'suturelaw16.PlaceFirst': WHATEVER THE INPUT: true; the input reads as it did. -/
def placeFirstSpec : ChangeSpec := { name := "placeFirst", fn := fun _ => fun
  | [d1, d2, d3, d4, d5] => { results := [.lit (.bool true)], args := [d1, d2, d3, d4, d5] }
  | _ => none }
def placeFirstRow : OpenClaim := { program := "ythmifcbhbcjeiaa", sum := "bc50ea094c42570a9157c6285ab09904859588a833ffbdab2eb31a930fd32c4e", func := "suture/suturelaw16.PlaceFirst", spec := "placeFirst", inPlace := ["slices.overlaps[suture/api.Load]"], unfollowed := true, recurses := true, apart := false }
def PlaceFirstSaid : Prop := placeFirstRow.holds Try.pinned (OpenSpec.ofChange placeFirstSpec)

/-- ITS FALSE NEIGHBOUR: 'it returns false'. Refute it at one input. -/
def placeFirstWrong : ChangeSpec := { name := "placeFirst", fn := fun _ => fun
  | [d1, d2, d3, d4, d5] => { results := [.lit (.bool false)], args := [d1, d2, d3, d4, d5] }
  | _ => none }
def PlaceFirstWrongFalsely : Prop := placeFirstRow.holds Try.pinned (OpenSpec.ofChange placeFirstWrong)

/- THE SECOND FORM. 'bulk': how many values and letters a reading holds, each counted each time it is reached (what is shared counts as often as it is met; a slice's spare places count too). A statement '..UptoSaid' is the law's where the arguments, and the package variables that the reading takes, are together of bulk at most 1048576: NARROWER than '..Said'. Prove '..Said' where nothing that the law and all that it calls make is longer than what came in: it says more and counts as full. Else prove '..UptoSaid'. A law counts once. -/
mutual
def uptoBulk {H : Type} : DataW H → Nat
  | .lit (.string bytes) => bytes.length + 1
  | .lit _ => 1
  | .nil => 1
  | .ptr d => uptoBulk d + 1
  | .slice elems spare => uptoBulkAll elems + uptoBulkAll spare + 1
  | .agg parts => uptoBulkAll parts + 1
  | .iface _ d => uptoBulk d + 1
  | .map entries => uptoBulkEntries entries + 1
  | .held _ => 1
def uptoBulkAll {H : Type} : List (DataW H) → Nat
  | [] => 0
  | d :: r => uptoBulk d + uptoBulkAll r
def uptoBulkEntries {H : Type} : List (Lit × DataW H) → Nat
  | [] => 0
  | x :: r => uptoBulkEntry x + uptoBulkEntries r
def uptoBulkEntry {H : Type} : Lit × DataW H → Nat
  | (.string bytes, d) => bytes.length + uptoBulk d + 1
  | (_, d) => uptoBulk d + 1
 end
def uptoSmall : (H : Type) → List (DataW H) → Bool := fun _ ds => decide (uptoBulkAll ds ≤ 1048576)
def OpenSpec.upto (s : _root_.Go.ChangeSpec) : _root_.Go.OpenSpec := { _root_.Go.OpenSpec.ofChange s with cond := some uptoSmall }

/-- 'suturelaw12.NodesRacks', WHERE WHAT IT READS IS OF BULK AT MOST 1048576: true; the input reads as it did. -/
def nodesRacksUptoRow : OpenClaim := { program := "ythmifcbhbcjeiaa", sum := "bc50ea094c42570a9157c6285ab09904859588a833ffbdab2eb31a930fd32c4e", func := "suture/suturelaw12.NodesRacks", spec := "nodesRacks", unfollowed := true, recurses := true, apart := false, narrowed := true }
def NodesRacksUptoSaid : Prop := nodesRacksUptoRow.holds Try.pinned (OpenSpec.upto nodesRacksSpec)

/-- 'suturelaw12.NodesTell', WHERE WHAT IT READS IS OF BULK AT MOST 1048576: true; the input reads as it did. -/
def nodesTellUptoRow : OpenClaim := { program := "ythmifcbhbcjeiaa", sum := "bc50ea094c42570a9157c6285ab09904859588a833ffbdab2eb31a930fd32c4e", func := "suture/suturelaw12.NodesTell", spec := "nodesTell", unfollowed := true, recurses := true, apart := false, narrowed := true }
def NodesTellUptoSaid : Prop := nodesTellUptoRow.holds Try.pinned (OpenSpec.upto nodesTellSpec)

/-- 'suturelaw12.NodesStates', WHERE WHAT IT READS IS OF BULK AT MOST 1048576: true; the input reads as it did. -/
def nodesStatesUptoRow : OpenClaim := { program := "ythmifcbhbcjeiaa", sum := "bc50ea094c42570a9157c6285ab09904859588a833ffbdab2eb31a930fd32c4e", func := "suture/suturelaw12.NodesStates", spec := "nodesStates", unfollowed := true, recurses := true, apart := false, narrowed := true }
def NodesStatesUptoSaid : Prop := nodesStatesUptoRow.holds Try.pinned (OpenSpec.upto nodesStatesSpec)

/-- 'suturelaw12.NodesGone', WHERE WHAT IT READS IS OF BULK AT MOST 1048576: true; the input reads as it did. -/
def nodesGoneUptoRow : OpenClaim := { program := "ythmifcbhbcjeiaa", sum := "bc50ea094c42570a9157c6285ab09904859588a833ffbdab2eb31a930fd32c4e", func := "suture/suturelaw12.NodesGone", spec := "nodesGone", unfollowed := true, recurses := true, apart := false, narrowed := true }
def NodesGoneUptoSaid : Prop := nodesGoneUptoRow.holds Try.pinned (OpenSpec.upto nodesGoneSpec)

/-- 'suturelaw16.PlaceMay', WHERE WHAT IT READS IS OF BULK AT MOST 1048576: true; the input reads as it did. -/
def placeMayUptoRow : OpenClaim := { program := "ythmifcbhbcjeiaa", sum := "bc50ea094c42570a9157c6285ab09904859588a833ffbdab2eb31a930fd32c4e", func := "suture/suturelaw16.PlaceMay", spec := "placeMay", unfollowed := true, recurses := true, apart := false, narrowed := true }
def PlaceMayUptoSaid : Prop := placeMayUptoRow.holds Try.pinned (OpenSpec.upto placeMaySpec)

/-- 'suturelaw16.PlaceRacks', WHERE WHAT IT READS IS OF BULK AT MOST 1048576: true; the input reads as it did. -/
def placeRacksUptoRow : OpenClaim := { program := "ythmifcbhbcjeiaa", sum := "bc50ea094c42570a9157c6285ab09904859588a833ffbdab2eb31a930fd32c4e", func := "suture/suturelaw16.PlaceRacks", spec := "placeRacks", unfollowed := true, recurses := true, apart := false, narrowed := true }
def PlaceRacksUptoSaid : Prop := placeRacksUptoRow.holds Try.pinned (OpenSpec.upto placeRacksSpec)

/-- 'suturelaw12.NodesThere', WHERE WHAT IT READS IS OF BULK AT MOST 1048576: true; the input reads as it did. -/
def nodesThereUptoRow : OpenClaim := { program := "ythmifcbhbcjeiaa", sum := "bc50ea094c42570a9157c6285ab09904859588a833ffbdab2eb31a930fd32c4e", func := "suture/suturelaw12.NodesThere", spec := "nodesThere", inPlace := ["slices.overlaps[suture/api.Node]"], unfollowed := true, recurses := true, apart := false, narrowed := true }
def NodesThereUptoSaid : Prop := nodesThereUptoRow.holds Try.pinned (OpenSpec.upto nodesThereSpec)

/-- 'suturelaw12.NodesChange', WHERE WHAT IT READS IS OF BULK AT MOST 1048576: true; the input reads as it did. -/
def nodesChangeUptoRow : OpenClaim := { program := "ythmifcbhbcjeiaa", sum := "bc50ea094c42570a9157c6285ab09904859588a833ffbdab2eb31a930fd32c4e", func := "suture/suturelaw12.NodesChange", spec := "nodesChange", inPlace := ["slices.overlaps[suture/api.Node]"], unfollowed := true, recurses := true, apart := false, narrowed := true }
def NodesChangeUptoSaid : Prop := nodesChangeUptoRow.holds Try.pinned (OpenSpec.upto nodesChangeSpec)

/-- 'suturelaw16.PlaceTargets', WHERE WHAT IT READS IS OF BULK AT MOST 1048576: true; the input reads as it did. -/
def placeTargetsUptoRow : OpenClaim := { program := "ythmifcbhbcjeiaa", sum := "bc50ea094c42570a9157c6285ab09904859588a833ffbdab2eb31a930fd32c4e", func := "suture/suturelaw16.PlaceTargets", spec := "placeTargets", inPlace := ["slices.overlaps[suture/api.Load]"], unfollowed := true, recurses := true, apart := false, narrowed := true }
def PlaceTargetsUptoSaid : Prop := placeTargetsUptoRow.holds Try.pinned (OpenSpec.upto placeTargetsSpec)

/-- 'suturelaw16.PlaceMany', WHERE WHAT IT READS IS OF BULK AT MOST 1048576: true; the input reads as it did. -/
def placeManyUptoRow : OpenClaim := { program := "ythmifcbhbcjeiaa", sum := "bc50ea094c42570a9157c6285ab09904859588a833ffbdab2eb31a930fd32c4e", func := "suture/suturelaw16.PlaceMany", spec := "placeMany", inPlace := ["slices.overlaps[suture/api.Load]"], unfollowed := true, recurses := true, apart := false, narrowed := true }
def PlaceManyUptoSaid : Prop := placeManyUptoRow.holds Try.pinned (OpenSpec.upto placeManySpec)

/-- 'suturelaw16.PlaceRoom', WHERE WHAT IT READS IS OF BULK AT MOST 1048576: true; the input reads as it did. -/
def placeRoomUptoRow : OpenClaim := { program := "ythmifcbhbcjeiaa", sum := "bc50ea094c42570a9157c6285ab09904859588a833ffbdab2eb31a930fd32c4e", func := "suture/suturelaw16.PlaceRoom", spec := "placeRoom", inPlace := ["slices.overlaps[suture/api.Load]"], unfollowed := true, recurses := true, apart := false, narrowed := true }
def PlaceRoomUptoSaid : Prop := placeRoomUptoRow.holds Try.pinned (OpenSpec.upto placeRoomSpec)

/-- 'suturelaw16.PlaceFirst', WHERE WHAT IT READS IS OF BULK AT MOST 1048576: true; the input reads as it did. -/
def placeFirstUptoRow : OpenClaim := { program := "ythmifcbhbcjeiaa", sum := "bc50ea094c42570a9157c6285ab09904859588a833ffbdab2eb31a930fd32c4e", func := "suture/suturelaw16.PlaceFirst", spec := "placeFirst", inPlace := ["slices.overlaps[suture/api.Load]"], unfollowed := true, recurses := true, apart := false, narrowed := true }
def PlaceFirstUptoSaid : Prop := placeFirstUptoRow.holds Try.pinned (OpenSpec.upto placeFirstSpec)

end Rows
end Go.Proofs.Ythmifcbhbcjeiaa
