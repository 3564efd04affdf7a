/-
  No cell of these rows narrows 'for every input' (looked for: loops, veiled, ifaces, maps, wideKeys, modest, calm, conditions, laid).
  DERIVED. THE GIVEN ROWS OF THIS SEAT. 12 by the template 'for every input the law returns true; each argument reads behind the call as it read before'; 0 by the template 'total and deterministic' (their statements: YtncgpojjibojlaaTotals.lean).
  GIVEN WITH THE SEED: the statements are not yours to turn. If you find one false, say at which input.
  Laid BY PROGRAM, IN A SANDBOX (cutbox-rows.mjs): the forced cells as the released guide's own fill.sh prints them over the translation 1e52caaf5caf372f… (all of the seat's roots in one cut). By AI agents, Wed Nov 11 2026. No macro, syntax, notation, axiom, sorry.
-/
import Derived.Test.YtncgpojjibojlaaChecked
import GoSem.Claim
import GoSem.ClaimJoined
import GoSem.ClaimMapViews
import Derived.JoinedTies
import Derived.KernelRfl
namespace Go.Proofs.Ytncgpojjibojlaa
/- THE CELL 'sum', in the pinned program and in every row, IS THE sha256 OF THE DUMP (.gsa) THAT YtncgpojjibojlaaProg.lean LOADS. Nothing in Lean hashes anything: it is a label: what it is worth is what the hold of that sum in a sandbox is worth. -/
noncomputable def Try.pinned : Pinned := { name := "ytncgpojjibojlaa", sum := "1e52caaf5caf372f30f1dc1c31d9021d319f5bd4d8d6010f83c6dba5e23454c0", checked := Try.checked }
namespace Rows
def none {H : Type} : Left H := { results := [], args := [] }

/-- 'suturelaw11.ServerDoes': WHATEVER THE INPUT: true; the input reads as it did. -/
def serverDoesSpec : ChangeSpec := { name := "serverDoes", fn := fun _ => fun
  | [d1, d2, d3] => { results := [.lit (.bool true)], args := [d1, d2, d3] }
  | _ => none }
def serverDoesRow : OpenClaim := { program := "ytncgpojjibojlaa", sum := "1e52caaf5caf372f30f1dc1c31d9021d319f5bd4d8d6010f83c6dba5e23454c0", func := "suture/suturelaw11.ServerDoes", spec := "serverDoes", inPlace := ["slices.overlaps[suture/api.Replica]"], unfollowed := true, recurses := true, plainKeys := false, apart := false }
def ServerDoesSaid : Prop := serverDoesRow.holds Try.pinned (OpenSpec.ofChange serverDoesSpec)

/-- ITS FALSE NEIGHBOUR: 'it returns false'. Refute it at one input. -/
def serverDoesWrong : ChangeSpec := { name := "serverDoes", fn := fun _ => fun
  | [d1, d2, d3] => { results := [.lit (.bool false)], args := [d1, d2, d3] }
  | _ => none }
def ServerDoesWrongFalsely : Prop := serverDoesRow.holds Try.pinned (OpenSpec.ofChange serverDoesWrong)

/-- 'suturelaw11.ServerRefuses': WHATEVER THE INPUT: true; the input reads as it did. -/
def serverRefusesSpec : ChangeSpec := { name := "serverRefuses", fn := fun _ => fun
  | [d1, d2, d3, d4, d5, d6] => { results := [.lit (.bool true)], args := [d1, d2, d3, d4, d5, d6] }
  | _ => none }
def serverRefusesRow : OpenClaim := { program := "ytncgpojjibojlaa", sum := "1e52caaf5caf372f30f1dc1c31d9021d319f5bd4d8d6010f83c6dba5e23454c0", func := "suture/suturelaw11.ServerRefuses", spec := "serverRefuses", inPlace := ["slices.overlaps[suture/api.Replica]"], unfollowed := true, recurses := true, plainKeys := false, apart := false }
def ServerRefusesSaid : Prop := serverRefusesRow.holds Try.pinned (OpenSpec.ofChange serverRefusesSpec)

/-- ITS FALSE NEIGHBOUR: 'it returns false'. Refute it at one input. -/
def serverRefusesWrong : ChangeSpec := { name := "serverRefuses", fn := fun _ => fun
  | [d1, d2, d3, d4, d5, d6] => { results := [.lit (.bool false)], args := [d1, d2, d3, d4, d5, d6] }
  | _ => none }
def ServerRefusesWrongFalsely : Prop := serverRefusesRow.holds Try.pinned (OpenSpec.ofChange serverRefusesWrong)

/-- 'suturelaw10.ReplicaNewest': WHATEVER THE INPUT: true; the input reads as it did. -/
def replicaNewestSpec : ChangeSpec := { name := "replicaNewest", fn := fun _ => fun
  | [d1, d2, d3, d4] => { results := [.lit (.bool true)], args := [d1, d2, d3, d4] }
  | _ => none }
def replicaNewestRow : OpenClaim := { program := "ytncgpojjibojlaa", sum := "1e52caaf5caf372f30f1dc1c31d9021d319f5bd4d8d6010f83c6dba5e23454c0", func := "suture/suturelaw10.ReplicaNewest", spec := "replicaNewest", inPlace := ["slices.overlaps[suture/api.Replica]"], unfollowed := true, recurses := true, plainKeys := false, apart := false }
def ReplicaNewestSaid : Prop := replicaNewestRow.holds Try.pinned (OpenSpec.ofChange replicaNewestSpec)

/-- ITS FALSE NEIGHBOUR: 'it returns false'. Refute it at one input. -/
def replicaNewestWrong : ChangeSpec := { name := "replicaNewest", fn := fun _ => fun
  | [d1, d2, d3, d4] => { results := [.lit (.bool false)], args := [d1, d2, d3, d4] }
  | _ => none }
def ReplicaNewestWrongFalsely : Prop := replicaNewestRow.holds Try.pinned (OpenSpec.ofChange replicaNewestWrong)

/-- 'suturelaw10.ReplicaTwice': WHATEVER THE INPUT: true; the input reads as it did. -/
def replicaTwiceSpec : ChangeSpec := { name := "replicaTwice", fn := fun _ => fun
  | [d1, d2, d3] => { results := [.lit (.bool true)], args := [d1, d2, d3] }
  | _ => none }
def replicaTwiceRow : OpenClaim := { program := "ytncgpojjibojlaa", sum := "1e52caaf5caf372f30f1dc1c31d9021d319f5bd4d8d6010f83c6dba5e23454c0", func := "suture/suturelaw10.ReplicaTwice", spec := "replicaTwice", inPlace := ["slices.overlaps[suture/api.Replica]"], unfollowed := true, recurses := true, plainKeys := false, apart := false }
def ReplicaTwiceSaid : Prop := replicaTwiceRow.holds Try.pinned (OpenSpec.ofChange replicaTwiceSpec)

/-- ITS FALSE NEIGHBOUR: 'it returns false'. Refute it at one input. -/
def replicaTwiceWrong : ChangeSpec := { name := "replicaTwice", fn := fun _ => fun
  | [d1, d2, d3] => { results := [.lit (.bool false)], args := [d1, d2, d3] }
  | _ => none }
def ReplicaTwiceWrongFalsely : Prop := replicaTwiceRow.holds Try.pinned (OpenSpec.ofChange replicaTwiceWrong)

/-- 'suturelaw10.ReplicaRemoves': WHATEVER THE INPUT: true; the input reads as it did. -/
def replicaRemovesSpec : ChangeSpec := { name := "replicaRemoves", fn := fun _ => fun
  | [d1, d2] => { results := [.lit (.bool true)], args := [d1, d2] }
  | _ => none }
def replicaRemovesRow : OpenClaim := { program := "ytncgpojjibojlaa", sum := "1e52caaf5caf372f30f1dc1c31d9021d319f5bd4d8d6010f83c6dba5e23454c0", func := "suture/suturelaw10.ReplicaRemoves", spec := "replicaRemoves", inPlace := ["slices.overlaps[suture/api.Replica]"], unfollowed := true, recurses := true, plainKeys := false, apart := false }
def ReplicaRemovesSaid : Prop := replicaRemovesRow.holds Try.pinned (OpenSpec.ofChange replicaRemovesSpec)

/-- ITS FALSE NEIGHBOUR: 'it returns false'. Refute it at one input. -/
def replicaRemovesWrong : ChangeSpec := { name := "replicaRemoves", fn := fun _ => fun
  | [d1, d2] => { results := [.lit (.bool false)], args := [d1, d2] }
  | _ => none }
def ReplicaRemovesWrongFalsely : Prop := replicaRemovesRow.holds Try.pinned (OpenSpec.ofChange replicaRemovesWrong)

/-- 'suturelaw10.ReplicaScrubs': WHATEVER THE INPUT: true; the input reads as it did. -/
def replicaScrubsSpec : ChangeSpec := { name := "replicaScrubs", fn := fun _ => fun
  | [d1, d2] => { results := [.lit (.bool true)], args := [d1, d2] }
  | _ => none }
def replicaScrubsRow : OpenClaim := { program := "ytncgpojjibojlaa", sum := "1e52caaf5caf372f30f1dc1c31d9021d319f5bd4d8d6010f83c6dba5e23454c0", func := "suture/suturelaw10.ReplicaScrubs", spec := "replicaScrubs", inPlace := ["slices.overlaps[suture/api.Replica]"], unfollowed := true, recurses := true, plainKeys := false, apart := false }
def ReplicaScrubsSaid : Prop := replicaScrubsRow.holds Try.pinned (OpenSpec.ofChange replicaScrubsSpec)

/-- ITS FALSE NEIGHBOUR: 'it returns false'. Refute it at one input. -/
def replicaScrubsWrong : ChangeSpec := { name := "replicaScrubs", fn := fun _ => fun
  | [d1, d2] => { results := [.lit (.bool false)], args := [d1, d2] }
  | _ => none }
def ReplicaScrubsWrongFalsely : Prop := replicaScrubsRow.holds Try.pinned (OpenSpec.ofChange replicaScrubsWrong)

/-- 'suturelaw10.ReplicaDoes': WHATEVER THE INPUT: true; the input reads as it did. -/
def replicaDoesSpec : ChangeSpec := { name := "replicaDoes", fn := fun _ => fun
  | [d1, d2] => { results := [.lit (.bool true)], args := [d1, d2] }
  | _ => none }
def replicaDoesRow : OpenClaim := { program := "ytncgpojjibojlaa", sum := "1e52caaf5caf372f30f1dc1c31d9021d319f5bd4d8d6010f83c6dba5e23454c0", func := "suture/suturelaw10.ReplicaDoes", spec := "replicaDoes", inPlace := ["slices.overlaps[suture/api.Replica]"], unfollowed := true, recurses := true, plainKeys := false, apart := false }
def ReplicaDoesSaid : Prop := replicaDoesRow.holds Try.pinned (OpenSpec.ofChange replicaDoesSpec)

/-- ITS FALSE NEIGHBOUR: 'it returns false'. Refute it at one input. -/
def replicaDoesWrong : ChangeSpec := { name := "replicaDoes", fn := fun _ => fun
  | [d1, d2] => { results := [.lit (.bool false)], args := [d1, d2] }
  | _ => none }
def ReplicaDoesWrongFalsely : Prop := replicaDoesRow.holds Try.pinned (OpenSpec.ofChange replicaDoesWrong)

/-- 'suturelaw10.ReplicaStays': WHATEVER THE INPUT: true; the input reads as it did. -/
def replicaStaysSpec : ChangeSpec := { name := "replicaStays", fn := fun _ => fun
  | [d] => { results := [.lit (.bool true)], args := [d] }
  | _ => none }
def replicaStaysRow : OpenClaim := { program := "ytncgpojjibojlaa", sum := "1e52caaf5caf372f30f1dc1c31d9021d319f5bd4d8d6010f83c6dba5e23454c0", func := "suture/suturelaw10.ReplicaStays", spec := "replicaStays", inPlace := ["slices.overlaps[suture/api.Replica]"], unfollowed := true, recurses := true, plainKeys := false, apart := false }
def ReplicaStaysSaid : Prop := replicaStaysRow.holds Try.pinned (OpenSpec.ofChange replicaStaysSpec)

/-- ITS FALSE NEIGHBOUR: 'it returns false'. Refute it at one input. -/
def replicaStaysWrong : ChangeSpec := { name := "replicaStays", fn := fun _ => fun
  | [d] => { results := [.lit (.bool false)], args := [d] }
  | _ => none }
def ReplicaStaysWrongFalsely : Prop := replicaStaysRow.holds Try.pinned (OpenSpec.ofChange replicaStaysWrong)

/-- 'suturelaw11.ServerNewer': WHATEVER THE INPUT: true; the input reads as it did. -/
def serverNewerSpec : ChangeSpec := { name := "serverNewer", fn := fun _ => fun
  | [d1, d2, d3, d4, d5] => { results := [.lit (.bool true)], args := [d1, d2, d3, d4, d5] }
  | _ => none }
def serverNewerRow : OpenClaim := { program := "ytncgpojjibojlaa", sum := "1e52caaf5caf372f30f1dc1c31d9021d319f5bd4d8d6010f83c6dba5e23454c0", func := "suture/suturelaw11.ServerNewer", spec := "serverNewer", inPlace := ["slices.overlaps[suture/api.Replica]"], unfollowed := true, recurses := true, plainKeys := false, apart := false }
def ServerNewerSaid : Prop := serverNewerRow.holds Try.pinned (OpenSpec.ofChange serverNewerSpec)

/-- ITS FALSE NEIGHBOUR: 'it returns false'. Refute it at one input. -/
def serverNewerWrong : ChangeSpec := { name := "serverNewer", fn := fun _ => fun
  | [d1, d2, d3, d4, d5] => { results := [.lit (.bool false)], args := [d1, d2, d3, d4, d5] }
  | _ => none }
def ServerNewerWrongFalsely : Prop := serverNewerRow.holds Try.pinned (OpenSpec.ofChange serverNewerWrong)

/-- 'suturelaw11.ServerForgets': WHATEVER THE INPUT: true; the input reads as it did. -/
def serverForgetsSpec : ChangeSpec := { name := "serverForgets", fn := fun _ => fun
  | [d1, d2, d3] => { results := [.lit (.bool true)], args := [d1, d2, d3] }
  | _ => none }
def serverForgetsRow : OpenClaim := { program := "ytncgpojjibojlaa", sum := "1e52caaf5caf372f30f1dc1c31d9021d319f5bd4d8d6010f83c6dba5e23454c0", func := "suture/suturelaw11.ServerForgets", spec := "serverForgets", inPlace := ["slices.overlaps[suture/api.Replica]"], unfollowed := true, recurses := true, plainKeys := false, apart := false }
def ServerForgetsSaid : Prop := serverForgetsRow.holds Try.pinned (OpenSpec.ofChange serverForgetsSpec)

/-- ITS FALSE NEIGHBOUR: 'it returns false'. Refute it at one input. -/
def serverForgetsWrong : ChangeSpec := { name := "serverForgets", fn := fun _ => fun
  | [d1, d2, d3] => { results := [.lit (.bool false)], args := [d1, d2, d3] }
  | _ => none }
def ServerForgetsWrongFalsely : Prop := serverForgetsRow.holds Try.pinned (OpenSpec.ofChange serverForgetsWrong)

/-- 'suturelaw11.ServerTurns': WHATEVER THE INPUT: true; the input reads as it did. -/
def serverTurnsSpec : ChangeSpec := { name := "serverTurns", fn := fun _ => fun
  | [d1, d2, d3, d4] => { results := [.lit (.bool true)], args := [d1, d2, d3, d4] }
  | _ => none }
def serverTurnsRow : OpenClaim := { program := "ytncgpojjibojlaa", sum := "1e52caaf5caf372f30f1dc1c31d9021d319f5bd4d8d6010f83c6dba5e23454c0", func := "suture/suturelaw11.ServerTurns", spec := "serverTurns", inPlace := ["slices.overlaps[suture/api.Replica]"], unfollowed := true, recurses := true, plainKeys := false, apart := false }
def ServerTurnsSaid : Prop := serverTurnsRow.holds Try.pinned (OpenSpec.ofChange serverTurnsSpec)

/-- ITS FALSE NEIGHBOUR: 'it returns false'. Refute it at one input. -/
def serverTurnsWrong : ChangeSpec := { name := "serverTurns", fn := fun _ => fun
  | [d1, d2, d3, d4] => { results := [.lit (.bool false)], args := [d1, d2, d3, d4] }
  | _ => none }
def ServerTurnsWrongFalsely : Prop := serverTurnsRow.holds Try.pinned (OpenSpec.ofChange serverTurnsWrong)

/-- 'suturelaw11.ServerHolds': WHATEVER THE INPUT: true; the input reads as it did. -/
def serverHoldsSpec : ChangeSpec := { name := "serverHolds", fn := fun _ => fun
  | [d1, d2, d3, d4] => { results := [.lit (.bool true)], args := [d1, d2, d3, d4] }
  | _ => none }
def serverHoldsRow : OpenClaim := { program := "ytncgpojjibojlaa", sum := "1e52caaf5caf372f30f1dc1c31d9021d319f5bd4d8d6010f83c6dba5e23454c0", func := "suture/suturelaw11.ServerHolds", spec := "serverHolds", inPlace := ["slices.overlaps[suture/api.Replica]"], unfollowed := true, recurses := true, plainKeys := false, apart := false }
def ServerHoldsSaid : Prop := serverHoldsRow.holds Try.pinned (OpenSpec.ofChange serverHoldsSpec)

/-- ITS FALSE NEIGHBOUR: 'it returns false'. Refute it at one input. -/
def serverHoldsWrong : ChangeSpec := { name := "serverHolds", fn := fun _ => fun
  | [d1, d2, d3, d4] => { results := [.lit (.bool false)], args := [d1, d2, d3, d4] }
  | _ => none }
def ServerHoldsWrongFalsely : Prop := serverHoldsRow.holds Try.pinned (OpenSpec.ofChange serverHoldsWrong)

/- THE SECOND FORM. 'bulk': how many values and letters a reading holds, each counted each time it is reached (what is shared counts as often as it is met; a slice's spare places count too). A statement '..UptoSaid' is the law's where the arguments, and the package variables that the reading takes, are together of bulk at most 1048576: NARROWER than '..Said'. Prove '..Said' where nothing that the law and all that it calls make is longer than what came in: it says more and counts as full. Else prove '..UptoSaid'. A law counts once. -/
mutual
def uptoBulk {H : Type} : DataW H → Nat
  | .lit (.string bytes) => bytes.length + 1
  | .lit _ => 1
  | .nil => 1
  | .ptr d => uptoBulk d + 1
  | .slice elems spare => uptoBulkAll elems + uptoBulkAll spare + 1
  | .agg parts => uptoBulkAll parts + 1
  | .iface _ d => uptoBulk d + 1
  | .map entries => uptoBulkEntries entries + 1
  | .held _ => 1
def uptoBulkAll {H : Type} : List (DataW H) → Nat
  | [] => 0
  | d :: r => uptoBulk d + uptoBulkAll r
def uptoBulkEntries {H : Type} : List (Lit × DataW H) → Nat
  | [] => 0
  | x :: r => uptoBulkEntry x + uptoBulkEntries r
def uptoBulkEntry {H : Type} : Lit × DataW H → Nat
  | (.string bytes, d) => bytes.length + uptoBulk d + 1
  | (_, d) => uptoBulk d + 1
 end
def uptoSmall : (H : Type) → List (DataW H) → Bool := fun _ ds => decide (uptoBulkAll ds ≤ 1048576)
def OpenSpec.upto (s : _root_.Go.ChangeSpec) : _root_.Go.OpenSpec := { _root_.Go.OpenSpec.ofChange s with cond := some uptoSmall }

/-- 'suturelaw11.ServerDoes', WHERE WHAT IT READS IS OF BULK AT MOST 1048576: true; the input reads as it did. -/
def serverDoesUptoRow : OpenClaim := { program := "ytncgpojjibojlaa", sum := "1e52caaf5caf372f30f1dc1c31d9021d319f5bd4d8d6010f83c6dba5e23454c0", func := "suture/suturelaw11.ServerDoes", spec := "serverDoes", inPlace := ["slices.overlaps[suture/api.Replica]"], unfollowed := true, recurses := true, plainKeys := false, apart := false, narrowed := true }
def ServerDoesUptoSaid : Prop := serverDoesUptoRow.holds Try.pinned (OpenSpec.upto serverDoesSpec)

/-- 'suturelaw11.ServerRefuses', WHERE WHAT IT READS IS OF BULK AT MOST 1048576: true; the input reads as it did. -/
def serverRefusesUptoRow : OpenClaim := { program := "ytncgpojjibojlaa", sum := "1e52caaf5caf372f30f1dc1c31d9021d319f5bd4d8d6010f83c6dba5e23454c0", func := "suture/suturelaw11.ServerRefuses", spec := "serverRefuses", inPlace := ["slices.overlaps[suture/api.Replica]"], unfollowed := true, recurses := true, plainKeys := false, apart := false, narrowed := true }
def ServerRefusesUptoSaid : Prop := serverRefusesUptoRow.holds Try.pinned (OpenSpec.upto serverRefusesSpec)

/-- 'suturelaw10.ReplicaNewest', WHERE WHAT IT READS IS OF BULK AT MOST 1048576: true; the input reads as it did. -/
def replicaNewestUptoRow : OpenClaim := { program := "ytncgpojjibojlaa", sum := "1e52caaf5caf372f30f1dc1c31d9021d319f5bd4d8d6010f83c6dba5e23454c0", func := "suture/suturelaw10.ReplicaNewest", spec := "replicaNewest", inPlace := ["slices.overlaps[suture/api.Replica]"], unfollowed := true, recurses := true, plainKeys := false, apart := false, narrowed := true }
def ReplicaNewestUptoSaid : Prop := replicaNewestUptoRow.holds Try.pinned (OpenSpec.upto replicaNewestSpec)

/-- 'suturelaw10.ReplicaTwice', WHERE WHAT IT READS IS OF BULK AT MOST 1048576: true; the input reads as it did. -/
def replicaTwiceUptoRow : OpenClaim := { program := "ytncgpojjibojlaa", sum := "1e52caaf5caf372f30f1dc1c31d9021d319f5bd4d8d6010f83c6dba5e23454c0", func := "suture/suturelaw10.ReplicaTwice", spec := "replicaTwice", inPlace := ["slices.overlaps[suture/api.Replica]"], unfollowed := true, recurses := true, plainKeys := false, apart := false, narrowed := true }
def ReplicaTwiceUptoSaid : Prop := replicaTwiceUptoRow.holds Try.pinned (OpenSpec.upto replicaTwiceSpec)

/-- 'suturelaw10.ReplicaRemoves', WHERE WHAT IT READS IS OF BULK AT MOST 1048576: true; the input reads as it did. -/
def replicaRemovesUptoRow : OpenClaim := { program := "ytncgpojjibojlaa", sum := "1e52caaf5caf372f30f1dc1c31d9021d319f5bd4d8d6010f83c6dba5e23454c0", func := "suture/suturelaw10.ReplicaRemoves", spec := "replicaRemoves", inPlace := ["slices.overlaps[suture/api.Replica]"], unfollowed := true, recurses := true, plainKeys := false, apart := false, narrowed := true }
def ReplicaRemovesUptoSaid : Prop := replicaRemovesUptoRow.holds Try.pinned (OpenSpec.upto replicaRemovesSpec)

/-- 'suturelaw10.ReplicaScrubs', WHERE WHAT IT READS IS OF BULK AT MOST 1048576: true; the input reads as it did. -/
def replicaScrubsUptoRow : OpenClaim := { program := "ytncgpojjibojlaa", sum := "1e52caaf5caf372f30f1dc1c31d9021d319f5bd4d8d6010f83c6dba5e23454c0", func := "suture/suturelaw10.ReplicaScrubs", spec := "replicaScrubs", inPlace := ["slices.overlaps[suture/api.Replica]"], unfollowed := true, recurses := true, plainKeys := false, apart := false, narrowed := true }
def ReplicaScrubsUptoSaid : Prop := replicaScrubsUptoRow.holds Try.pinned (OpenSpec.upto replicaScrubsSpec)

/-- 'suturelaw10.ReplicaDoes', WHERE WHAT IT READS IS OF BULK AT MOST 1048576: true; the input reads as it did. -/
def replicaDoesUptoRow : OpenClaim := { program := "ytncgpojjibojlaa", sum := "1e52caaf5caf372f30f1dc1c31d9021d319f5bd4d8d6010f83c6dba5e23454c0", func := "suture/suturelaw10.ReplicaDoes", spec := "replicaDoes", inPlace := ["slices.overlaps[suture/api.Replica]"], unfollowed := true, recurses := true, plainKeys := false, apart := false, narrowed := true }
def ReplicaDoesUptoSaid : Prop := replicaDoesUptoRow.holds Try.pinned (OpenSpec.upto replicaDoesSpec)

/-- 'suturelaw10.ReplicaStays', WHERE WHAT IT READS IS OF BULK AT MOST 1048576: true; the input reads as it did. -/
def replicaStaysUptoRow : OpenClaim := { program := "ytncgpojjibojlaa", sum := "1e52caaf5caf372f30f1dc1c31d9021d319f5bd4d8d6010f83c6dba5e23454c0", func := "suture/suturelaw10.ReplicaStays", spec := "replicaStays", inPlace := ["slices.overlaps[suture/api.Replica]"], unfollowed := true, recurses := true, plainKeys := false, apart := false, narrowed := true }
def ReplicaStaysUptoSaid : Prop := replicaStaysUptoRow.holds Try.pinned (OpenSpec.upto replicaStaysSpec)

/-- 'suturelaw11.ServerNewer', WHERE WHAT IT READS IS OF BULK AT MOST 1048576: true; the input reads as it did. -/
def serverNewerUptoRow : OpenClaim := { program := "ytncgpojjibojlaa", sum := "1e52caaf5caf372f30f1dc1c31d9021d319f5bd4d8d6010f83c6dba5e23454c0", func := "suture/suturelaw11.ServerNewer", spec := "serverNewer", inPlace := ["slices.overlaps[suture/api.Replica]"], unfollowed := true, recurses := true, plainKeys := false, apart := false, narrowed := true }
def ServerNewerUptoSaid : Prop := serverNewerUptoRow.holds Try.pinned (OpenSpec.upto serverNewerSpec)

/-- 'suturelaw11.ServerForgets', WHERE WHAT IT READS IS OF BULK AT MOST 1048576: true; the input reads as it did. -/
def serverForgetsUptoRow : OpenClaim := { program := "ytncgpojjibojlaa", sum := "1e52caaf5caf372f30f1dc1c31d9021d319f5bd4d8d6010f83c6dba5e23454c0", func := "suture/suturelaw11.ServerForgets", spec := "serverForgets", inPlace := ["slices.overlaps[suture/api.Replica]"], unfollowed := true, recurses := true, plainKeys := false, apart := false, narrowed := true }
def ServerForgetsUptoSaid : Prop := serverForgetsUptoRow.holds Try.pinned (OpenSpec.upto serverForgetsSpec)

/-- 'suturelaw11.ServerTurns', WHERE WHAT IT READS IS OF BULK AT MOST 1048576: true; the input reads as it did. -/
def serverTurnsUptoRow : OpenClaim := { program := "ytncgpojjibojlaa", sum := "1e52caaf5caf372f30f1dc1c31d9021d319f5bd4d8d6010f83c6dba5e23454c0", func := "suture/suturelaw11.ServerTurns", spec := "serverTurns", inPlace := ["slices.overlaps[suture/api.Replica]"], unfollowed := true, recurses := true, plainKeys := false, apart := false, narrowed := true }
def ServerTurnsUptoSaid : Prop := serverTurnsUptoRow.holds Try.pinned (OpenSpec.upto serverTurnsSpec)

/-- 'suturelaw11.ServerHolds', WHERE WHAT IT READS IS OF BULK AT MOST 1048576: true; the input reads as it did. -/
def serverHoldsUptoRow : OpenClaim := { program := "ytncgpojjibojlaa", sum := "1e52caaf5caf372f30f1dc1c31d9021d319f5bd4d8d6010f83c6dba5e23454c0", func := "suture/suturelaw11.ServerHolds", spec := "serverHolds", inPlace := ["slices.overlaps[suture/api.Replica]"], unfollowed := true, recurses := true, plainKeys := false, apart := false, narrowed := true }
def ServerHoldsUptoSaid : Prop := serverHoldsUptoRow.holds Try.pinned (OpenSpec.upto serverHoldsSpec)

end Rows
end Go.Proofs.Ytncgpojjibojlaa
