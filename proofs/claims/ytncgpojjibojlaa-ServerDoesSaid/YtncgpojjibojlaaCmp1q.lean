/- cmp.Compare at int: its contract. -/
import Derived.Test.YtncgpojjibojlaaCmpq
namespace Go.Proofs.Ytncgpojjibojlaa
open Go Go.RowKit



theorem cmpI_lt (x y : Int) : cmpI x y < 0 ↔ x < y := by
  unfold cmpI
  split
  · simp; assumption
  · split <;> simp <;> omega
theorem cmpI_eq (x y : Int) : cmpI x y = 0 ↔ x = y := by
  unfold cmpI
  split
  · simp; omega
  · split <;> simp <;> omega

end Go.Proofs.Ytncgpojjibojlaa
