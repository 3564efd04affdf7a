/-
  No cell of these rows narrows 'for every input' (looked for: loops, veiled, ifaces, maps, wideKeys, modest, calm, conditions, laid).
  DERIVED. THE GIVEN ROWS OF THIS SEAT. 10 by the template 'for every input the law returns true; each argument reads behind the call as it read before'; 0 by the template 'total and deterministic' (their statements: YtflndnbjdhbppaaTotals.lean).
  GIVEN WITH THE SEED: the statements are not yours to turn. If you find one false, say at which input.
  Laid BY PROGRAM, IN A SANDBOX (cutbox-rows.mjs): the forced cells as the released guide's own fill.sh prints them over the translation b5a65a072a7a1fb7… (all of the seat's roots in one cut). By AI agents, Wed Nov 11 2026. No macro, syntax, notation, axiom, sorry.
-/
import Derived.Test.YtflndnbjdhbppaaChecked
import GoSem.Claim
import GoSem.ClaimJoined
import GoSem.ClaimMapViews
import Derived.JoinedTies
import Derived.KernelRfl
namespace Go.Proofs.Ytflndnbjdhbppaa
/- THE CELL 'sum', in the pinned program and in every row, IS THE sha256 OF THE DUMP (.gsa) THAT YtflndnbjdhbppaaProg.lean LOADS. Nothing in Lean hashes anything: it is a label: what it is worth is what the hold of that sum in a sandbox is worth. -/
noncomputable def Try.pinned : Pinned := { name := "ytflndnbjdhbppaa", sum := "b5a65a072a7a1fb7478f2d0295a5be844e9c58c29579a876cc8558d83fdbeae5", checked := Try.checked }
namespace Rows
def none {H : Type} : Left H := { results := [], args := [] }

/-- 'suturelaw17.QueueRuns': WHATEVER THE INPUT: true; the input reads as it did. -/
def queueRunsSpec : ChangeSpec := { name := "queueRuns", fn := fun _ => fun
  | [d] => { results := [.lit (.bool true)], args := [d] }
  | _ => none }
def queueRunsRow : OpenClaim := { program := "ytflndnbjdhbppaa", sum := "b5a65a072a7a1fb7478f2d0295a5be844e9c58c29579a876cc8558d83fdbeae5", func := "suture/suturelaw17.QueueRuns", spec := "queueRuns", unfollowed := true, recurses := true, apart := false }
def QueueRunsSaid : Prop := queueRunsRow.holds Try.pinned (OpenSpec.ofChange queueRunsSpec)

/-- ITS FALSE NEIGHBOUR: 'it returns false'. Refute it at one input. -/
def queueRunsWrong : ChangeSpec := { name := "queueRuns", fn := fun _ => fun
  | [d] => { results := [.lit (.bool false)], args := [d] }
  | _ => none }
def QueueRunsWrongFalsely : Prop := queueRunsRow.holds Try.pinned (OpenSpec.ofChange queueRunsWrong)

/-- 'suturelaw17.QueueOrder': WHATEVER THE INPUT: true; the input reads as it did. -/
def queueOrderSpec : ChangeSpec := { name := "queueOrder", fn := fun _ => fun
  | [d1, d2, d3] => { results := [.lit (.bool true)], args := [d1, d2, d3] }
  | _ => none }
def queueOrderRow : OpenClaim := { program := "ytflndnbjdhbppaa", sum := "b5a65a072a7a1fb7478f2d0295a5be844e9c58c29579a876cc8558d83fdbeae5", func := "suture/suturelaw17.QueueOrder", spec := "queueOrder", unfollowed := true, recurses := true, apart := false }
def QueueOrderSaid : Prop := queueOrderRow.holds Try.pinned (OpenSpec.ofChange queueOrderSpec)

/-- ITS FALSE NEIGHBOUR: 'it returns false'. Refute it at one input. -/
def queueOrderWrong : ChangeSpec := { name := "queueOrder", fn := fun _ => fun
  | [d1, d2, d3] => { results := [.lit (.bool false)], args := [d1, d2, d3] }
  | _ => none }
def QueueOrderWrongFalsely : Prop := queueOrderRow.holds Try.pinned (OpenSpec.ofChange queueOrderWrong)

/-- 'suturelaw17.QueueDrains': WHATEVER THE INPUT: true; the input reads as it did. -/
def queueDrainsSpec : ChangeSpec := { name := "queueDrains", fn := fun _ => fun
  | [d] => { results := [.lit (.bool true)], args := [d] }
  | _ => none }
def queueDrainsRow : OpenClaim := { program := "ytflndnbjdhbppaa", sum := "b5a65a072a7a1fb7478f2d0295a5be844e9c58c29579a876cc8558d83fdbeae5", func := "suture/suturelaw17.QueueDrains", spec := "queueDrains", unfollowed := true, recurses := true, apart := false }
def QueueDrainsSaid : Prop := queueDrainsRow.holds Try.pinned (OpenSpec.ofChange queueDrainsSpec)

/-- ITS FALSE NEIGHBOUR: 'it returns false'. Refute it at one input. -/
def queueDrainsWrong : ChangeSpec := { name := "queueDrains", fn := fun _ => fun
  | [d] => { results := [.lit (.bool false)], args := [d] }
  | _ => none }
def QueueDrainsWrongFalsely : Prop := queueDrainsRow.holds Try.pinned (OpenSpec.ofChange queueDrainsWrong)

/-- 'suturelaw17.QueueGood': WHATEVER THE INPUT: true; the input reads as it did. -/
def queueGoodSpec : ChangeSpec := { name := "queueGood", fn := fun _ => fun
  | [d1, d2, d3] => { results := [.lit (.bool true)], args := [d1, d2, d3] }
  | _ => none }
def queueGoodRow : OpenClaim := { program := "ytflndnbjdhbppaa", sum := "b5a65a072a7a1fb7478f2d0295a5be844e9c58c29579a876cc8558d83fdbeae5", func := "suture/suturelaw17.QueueGood", spec := "queueGood", unfollowed := true, recurses := true, apart := false }
def QueueGoodSaid : Prop := queueGoodRow.holds Try.pinned (OpenSpec.ofChange queueGoodSpec)

/-- ITS FALSE NEIGHBOUR: 'it returns false'. Refute it at one input. -/
def queueGoodWrong : ChangeSpec := { name := "queueGood", fn := fun _ => fun
  | [d1, d2, d3] => { results := [.lit (.bool false)], args := [d1, d2, d3] }
  | _ => none }
def QueueGoodWrongFalsely : Prop := queueGoodRow.holds Try.pinned (OpenSpec.ofChange queueGoodWrong)

/-- 'suturelaw19.TrimTells': WHATEVER THE INPUT: true; the input reads as it did. -/
def trimTellsSpec : ChangeSpec := { name := "trimTells", fn := fun _ => fun
  | [d1, d2, d3, d4, d5] => { results := [.lit (.bool true)], args := [d1, d2, d3, d4, d5] }
  | _ => none }
def trimTellsRow : OpenClaim := { program := "ytflndnbjdhbppaa", sum := "b5a65a072a7a1fb7478f2d0295a5be844e9c58c29579a876cc8558d83fdbeae5", func := "suture/suturelaw19.TrimTells", spec := "trimTells", unfollowed := true, recurses := true, apart := false }
def TrimTellsSaid : Prop := trimTellsRow.holds Try.pinned (OpenSpec.ofChange trimTellsSpec)

/-- ITS FALSE NEIGHBOUR: 'it returns false'. Refute it at one input. -/
def trimTellsWrong : ChangeSpec := { name := "trimTells", fn := fun _ => fun
  | [d1, d2, d3, d4, d5] => { results := [.lit (.bool false)], args := [d1, d2, d3, d4, d5] }
  | _ => none }
def TrimTellsWrongFalsely : Prop := trimTellsRow.holds Try.pinned (OpenSpec.ofChange trimTellsWrong)

/-- 'suturelaw19.TrimSafe': WHATEVER THE INPUT: true; the input reads as it did. -/
def trimSafeSpec : ChangeSpec := { name := "trimSafe", fn := fun _ => fun
  | [d1, d2, d3, d4, d5] => { results := [.lit (.bool true)], args := [d1, d2, d3, d4, d5] }
  | _ => none }
def trimSafeRow : OpenClaim := { program := "ytflndnbjdhbppaa", sum := "b5a65a072a7a1fb7478f2d0295a5be844e9c58c29579a876cc8558d83fdbeae5", func := "suture/suturelaw19.TrimSafe", spec := "trimSafe", unfollowed := true, recurses := true, apart := false }
def TrimSafeSaid : Prop := trimSafeRow.holds Try.pinned (OpenSpec.ofChange trimSafeSpec)

/-- ITS FALSE NEIGHBOUR: 'it returns false'. Refute it at one input. -/
def trimSafeWrong : ChangeSpec := { name := "trimSafe", fn := fun _ => fun
  | [d1, d2, d3, d4, d5] => { results := [.lit (.bool false)], args := [d1, d2, d3, d4, d5] }
  | _ => none }
def TrimSafeWrongFalsely : Prop := trimSafeRow.holds Try.pinned (OpenSpec.ofChange trimSafeWrong)

/-- 'suturelaw19.TrimRacks': WHATEVER THE INPUT: true; the input reads as it did. -/
def trimRacksSpec : ChangeSpec := { name := "trimRacks", fn := fun _ => fun
  | [d1, d2, d3, d4, d5] => { results := [.lit (.bool true)], args := [d1, d2, d3, d4, d5] }
  | _ => none }
def trimRacksRow : OpenClaim := { program := "ytflndnbjdhbppaa", sum := "b5a65a072a7a1fb7478f2d0295a5be844e9c58c29579a876cc8558d83fdbeae5", func := "suture/suturelaw19.TrimRacks", spec := "trimRacks", unfollowed := true, recurses := true, apart := false }
def TrimRacksSaid : Prop := trimRacksRow.holds Try.pinned (OpenSpec.ofChange trimRacksSpec)

/-- ITS FALSE NEIGHBOUR: 'it returns false'. Refute it at one input. -/
def trimRacksWrong : ChangeSpec := { name := "trimRacks", fn := fun _ => fun
  | [d1, d2, d3, d4, d5] => { results := [.lit (.bool false)], args := [d1, d2, d3, d4, d5] }
  | _ => none }
def TrimRacksWrongFalsely : Prop := trimRacksRow.holds Try.pinned (OpenSpec.ofChange trimRacksWrong)

/-- 'suturelaw19.TrimIdle': WHATEVER THE INPUT: true; the input reads as it did. -/
def trimIdleSpec : ChangeSpec := { name := "trimIdle", fn := fun _ => fun
  | [d1, d2, d3, d4, d5] => { results := [.lit (.bool true)], args := [d1, d2, d3, d4, d5] }
  | _ => none }
def trimIdleRow : OpenClaim := { program := "ytflndnbjdhbppaa", sum := "b5a65a072a7a1fb7478f2d0295a5be844e9c58c29579a876cc8558d83fdbeae5", func := "suture/suturelaw19.TrimIdle", spec := "trimIdle", unfollowed := true, recurses := true, apart := false }
def TrimIdleSaid : Prop := trimIdleRow.holds Try.pinned (OpenSpec.ofChange trimIdleSpec)

/-- ITS FALSE NEIGHBOUR: 'it returns false'. Refute it at one input. -/
def trimIdleWrong : ChangeSpec := { name := "trimIdle", fn := fun _ => fun
  | [d1, d2, d3, d4, d5] => { results := [.lit (.bool false)], args := [d1, d2, d3, d4, d5] }
  | _ => none }
def TrimIdleWrongFalsely : Prop := trimIdleRow.holds Try.pinned (OpenSpec.ofChange trimIdleWrong)

/-- 'suturelaw19.TrimOne': WHATEVER THE INPUT: true; the input reads as it did. -/
def trimOneSpec : ChangeSpec := { name := "trimOne", fn := fun _ => fun
  | [d1, d2, d3, d4, d5] => { results := [.lit (.bool true)], args := [d1, d2, d3, d4, d5] }
  | _ => none }
def trimOneRow : OpenClaim := { program := "ytflndnbjdhbppaa", sum := "b5a65a072a7a1fb7478f2d0295a5be844e9c58c29579a876cc8558d83fdbeae5", func := "suture/suturelaw19.TrimOne", spec := "trimOne", unfollowed := true, recurses := true, apart := false }
def TrimOneSaid : Prop := trimOneRow.holds Try.pinned (OpenSpec.ofChange trimOneSpec)

/-- ITS FALSE NEIGHBOUR: 'it returns false'. Refute it at one input. -/
def trimOneWrong : ChangeSpec := { name := "trimOne", fn := fun _ => fun
  | [d1, d2, d3, d4, d5] => { results := [.lit (.bool false)], args := [d1, d2, d3, d4, d5] }
  | _ => none }
def TrimOneWrongFalsely : Prop := trimOneRow.holds Try.pinned (OpenSpec.ofChange trimOneWrong)

/-- 'suturelaw19.TrimWhole': WHATEVER THE INPUT: true; the input reads as it did. -/
def trimWholeSpec : ChangeSpec := { name := "trimWhole", fn := fun _ => fun
  | [d1, d2, d3, d4, d5] => { results := [.lit (.bool true)], args := [d1, d2, d3, d4, d5] }
  | _ => none }
def trimWholeRow : OpenClaim := { program := "ytflndnbjdhbppaa", sum := "b5a65a072a7a1fb7478f2d0295a5be844e9c58c29579a876cc8558d83fdbeae5", func := "suture/suturelaw19.TrimWhole", spec := "trimWhole", unfollowed := true, recurses := true, apart := false }
def TrimWholeSaid : Prop := trimWholeRow.holds Try.pinned (OpenSpec.ofChange trimWholeSpec)

/-- ITS FALSE NEIGHBOUR: 'it returns false'. Refute it at one input. -/
def trimWholeWrong : ChangeSpec := { name := "trimWhole", fn := fun _ => fun
  | [d1, d2, d3, d4, d5] => { results := [.lit (.bool false)], args := [d1, d2, d3, d4, d5] }
  | _ => none }
def TrimWholeWrongFalsely : Prop := trimWholeRow.holds Try.pinned (OpenSpec.ofChange trimWholeWrong)

/- THE SECOND FORM. 'bulk': how many values and letters a reading holds, each counted each time it is reached (what is shared counts as often as it is met; a slice's spare places count too). A statement '..UptoSaid' is the law's where the arguments, and the package variables that the reading takes, are together of bulk at most 1048576: NARROWER than '..Said'. Prove '..Said' where nothing that the law and all that it calls make is longer than what came in: it says more and counts as full. Else prove '..UptoSaid'. A law counts once. -/
mutual
def uptoBulk {H : Type} : DataW H → Nat
  | .lit (.string bytes) => bytes.length + 1
  | .lit _ => 1
  | .nil => 1
  | .ptr d => uptoBulk d + 1
  | .slice elems spare => uptoBulkAll elems + uptoBulkAll spare + 1
  | .agg parts => uptoBulkAll parts + 1
  | .iface _ d => uptoBulk d + 1
  | .map entries => uptoBulkEntries entries + 1
  | .held _ => 1
def uptoBulkAll {H : Type} : List (DataW H) → Nat
  | [] => 0
  | d :: r => uptoBulk d + uptoBulkAll r
def uptoBulkEntries {H : Type} : List (Lit × DataW H) → Nat
  | [] => 0
  | x :: r => uptoBulkEntry x + uptoBulkEntries r
def uptoBulkEntry {H : Type} : Lit × DataW H → Nat
  | (.string bytes, d) => bytes.length + uptoBulk d + 1
  | (_, d) => uptoBulk d + 1
 end
def uptoSmall : (H : Type) → List (DataW H) → Bool := fun _ ds => decide (uptoBulkAll ds ≤ 1048576)
def OpenSpec.upto (s : _root_.Go.ChangeSpec) : _root_.Go.OpenSpec := { _root_.Go.OpenSpec.ofChange s with cond := some uptoSmall }

/-- 'suturelaw17.QueueRuns', WHERE WHAT IT READS IS OF BULK AT MOST 1048576: true; the input reads as it did. -/
def queueRunsUptoRow : OpenClaim := { program := "ytflndnbjdhbppaa", sum := "b5a65a072a7a1fb7478f2d0295a5be844e9c58c29579a876cc8558d83fdbeae5", func := "suture/suturelaw17.QueueRuns", spec := "queueRuns", unfollowed := true, recurses := true, apart := false, narrowed := true }
def QueueRunsUptoSaid : Prop := queueRunsUptoRow.holds Try.pinned (OpenSpec.upto queueRunsSpec)

/-- 'suturelaw17.QueueOrder', WHERE WHAT IT READS IS OF BULK AT MOST 1048576: true; the input reads as it did. -/
def queueOrderUptoRow : OpenClaim := { program := "ytflndnbjdhbppaa", sum := "b5a65a072a7a1fb7478f2d0295a5be844e9c58c29579a876cc8558d83fdbeae5", func := "suture/suturelaw17.QueueOrder", spec := "queueOrder", unfollowed := true, recurses := true, apart := false, narrowed := true }
def QueueOrderUptoSaid : Prop := queueOrderUptoRow.holds Try.pinned (OpenSpec.upto queueOrderSpec)

/-- 'suturelaw17.QueueDrains', WHERE WHAT IT READS IS OF BULK AT MOST 1048576: true; the input reads as it did. -/
def queueDrainsUptoRow : OpenClaim := { program := "ytflndnbjdhbppaa", sum := "b5a65a072a7a1fb7478f2d0295a5be844e9c58c29579a876cc8558d83fdbeae5", func := "suture/suturelaw17.QueueDrains", spec := "queueDrains", unfollowed := true, recurses := true, apart := false, narrowed := true }
def QueueDrainsUptoSaid : Prop := queueDrainsUptoRow.holds Try.pinned (OpenSpec.upto queueDrainsSpec)

/-- 'suturelaw17.QueueGood', WHERE WHAT IT READS IS OF BULK AT MOST 1048576: true; the input reads as it did. -/
def queueGoodUptoRow : OpenClaim := { program := "ytflndnbjdhbppaa", sum := "b5a65a072a7a1fb7478f2d0295a5be844e9c58c29579a876cc8558d83fdbeae5", func := "suture/suturelaw17.QueueGood", spec := "queueGood", unfollowed := true, recurses := true, apart := false, narrowed := true }
def QueueGoodUptoSaid : Prop := queueGoodUptoRow.holds Try.pinned (OpenSpec.upto queueGoodSpec)

/-- 'suturelaw19.TrimTells', WHERE WHAT IT READS IS OF BULK AT MOST 1048576: true; the input reads as it did. -/
def trimTellsUptoRow : OpenClaim := { program := "ytflndnbjdhbppaa", sum := "b5a65a072a7a1fb7478f2d0295a5be844e9c58c29579a876cc8558d83fdbeae5", func := "suture/suturelaw19.TrimTells", spec := "trimTells", unfollowed := true, recurses := true, apart := false, narrowed := true }
def TrimTellsUptoSaid : Prop := trimTellsUptoRow.holds Try.pinned (OpenSpec.upto trimTellsSpec)

/-- 'suturelaw19.TrimSafe', WHERE WHAT IT READS IS OF BULK AT MOST 1048576: true; the input reads as it did. -/
def trimSafeUptoRow : OpenClaim := { program := "ytflndnbjdhbppaa", sum := "b5a65a072a7a1fb7478f2d0295a5be844e9c58c29579a876cc8558d83fdbeae5", func := "suture/suturelaw19.TrimSafe", spec := "trimSafe", unfollowed := true, recurses := true, apart := false, narrowed := true }
def TrimSafeUptoSaid : Prop := trimSafeUptoRow.holds Try.pinned (OpenSpec.upto trimSafeSpec)

/-- 'suturelaw19.TrimRacks', WHERE WHAT IT READS IS OF BULK AT MOST 1048576: true; the input reads as it did. -/
def trimRacksUptoRow : OpenClaim := { program := "ytflndnbjdhbppaa", sum := "b5a65a072a7a1fb7478f2d0295a5be844e9c58c29579a876cc8558d83fdbeae5", func := "suture/suturelaw19.TrimRacks", spec := "trimRacks", unfollowed := true, recurses := true, apart := false, narrowed := true }
def TrimRacksUptoSaid : Prop := trimRacksUptoRow.holds Try.pinned (OpenSpec.upto trimRacksSpec)

/-- 'suturelaw19.TrimIdle', WHERE WHAT IT READS IS OF BULK AT MOST 1048576: true; the input reads as it did. -/
def trimIdleUptoRow : OpenClaim := { program := "ytflndnbjdhbppaa", sum := "b5a65a072a7a1fb7478f2d0295a5be844e9c58c29579a876cc8558d83fdbeae5", func := "suture/suturelaw19.TrimIdle", spec := "trimIdle", unfollowed := true, recurses := true, apart := false, narrowed := true }
def TrimIdleUptoSaid : Prop := trimIdleUptoRow.holds Try.pinned (OpenSpec.upto trimIdleSpec)

/-- 'suturelaw19.TrimOne', WHERE WHAT IT READS IS OF BULK AT MOST 1048576: true; the input reads as it did. -/
def trimOneUptoRow : OpenClaim := { program := "ytflndnbjdhbppaa", sum := "b5a65a072a7a1fb7478f2d0295a5be844e9c58c29579a876cc8558d83fdbeae5", func := "suture/suturelaw19.TrimOne", spec := "trimOne", unfollowed := true, recurses := true, apart := false, narrowed := true }
def TrimOneUptoSaid : Prop := trimOneUptoRow.holds Try.pinned (OpenSpec.upto trimOneSpec)

/-- 'suturelaw19.TrimWhole', WHERE WHAT IT READS IS OF BULK AT MOST 1048576: true; the input reads as it did. -/
def trimWholeUptoRow : OpenClaim := { program := "ytflndnbjdhbppaa", sum := "b5a65a072a7a1fb7478f2d0295a5be844e9c58c29579a876cc8558d83fdbeae5", func := "suture/suturelaw19.TrimWhole", spec := "trimWhole", unfollowed := true, recurses := true, apart := false, narrowed := true }
def TrimWholeUptoSaid : Prop := trimWholeUptoRow.holds Try.pinned (OpenSpec.upto trimWholeSpec)

end Rows
end Go.Proofs.Ytflndnbjdhbppaa
