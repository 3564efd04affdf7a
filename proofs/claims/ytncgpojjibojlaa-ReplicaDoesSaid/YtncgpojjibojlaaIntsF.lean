/- slices.Index, Contains, Clone at []int, sutureref16.Has: their contracts. -/
import Derived.Test.YtncgpojjibojlaaClr
import Derived.Test.YtncgpojjibojlaaKinds
import Derived.Test.YtncgpojjibojlaaCmp1
import Derived.Lib.SliceRun
namespace Go.Proofs.Ytncgpojjibojlaa
open Go Go.RowKit

theorem info_in : (Try.prog.info? 3).map (fun i => (i.zero, i.size, i.bytes)) = some (some (.int .i64 0), 1, 8) := by kernel_rfl

def FreshI (xs : List Int) (w : World) (en : Ending) (w' : World) : Prop := ∃ v', en = .returned v' ∧ Own w' w.heap.size 3 1 v' xs.length (xs.flatMap inC) ∧ Below w.heap.size w w'


def hasB (l : List Int) (z : Int) : Bool := l.contains z
theorem hasB_iff {l : List Int} {z : Int} : hasB l z = true ↔ z ∈ l := List.contains_iff_mem
theorem contains_at {l : List Int} {z : Int} {k : Nat} (hk : k < l.length) (h : at_ l k = z) : hasB l z = true := by
  rw [hasB_iff, ← h]
  exact at_mem hk
theorem contains_none {l : List Int} {z : Int} (h : ∀ j, j < l.length → at_ l j ≠ z) : hasB l z = false := by
  cases e : hasB l z with
  | false => rfl
  | true =>
    obtain ⟨j, hj, he⟩ := mem_at (hasB_iff.1 e)
    exact absurd he (h j hj)




end Go.Proofs.Ytncgpojjibojlaa
