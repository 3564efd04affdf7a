/- The opening of a law's arguments. -/
import Derived.Test.YtncgpojjibojlaaLaw
import Derived.Test.YtncgpojjibojlaaKinds
import Derived.Lib.SmallJoins
namespace Go.Proofs.Ytncgpojjibojlaa
open Go Go.RowKit Go.ChangeShapes Go.WideShapes Go.ChangeAt Go.Joins

theorem ownT : ownKnob Try.prog.godebug = none := by kernel_rfl
set_option maxRecDepth 1000000 in
theorem laidT : laidOutB Try.prog = true := by kernel_rfl

section
variable {H : Type} {enc : TypeId × Value → H} {W : World} {r : Reach} {b0 : Nat} {v : Value} {d : DataW H} {p : List MemPlace}
set_option maxRecDepth 1000000 in
theorem open_intsT (hv : Value.okWide Try.prog W r b0 29 v) (hlt : ∀ x ∈ p, x.block < W.heap.size) (h : DataW.Trod enc Try.prog W 0 (fun _ => true) true 29 v d p) : ∃ l : List Int, Rd W 1 v l.length (l.flatMap inC) := by
  refine open_rows inC 1 (by omega) inC_len Try.underlying29 (by kernel_rfl) (fun n cs y hy hl => ?_) (okWide_slice Try.underlying29 hv) hlt h
  obtain ⟨z, hz, _, _⟩ := DataW.trod_int Try.underlying3 hy
  exact ⟨z, hz⟩
end

end Go.Proofs.Ytncgpojjibojlaa
