/- The opening of a law's arguments. -/
import Derived.Test.YtjjpoialoabfoaaLaw
import Derived.Test.YtjjpoialoabfoaaKinds
import Derived.Lib.SmallJoins
namespace Go.Proofs.Ytjjpoialoabfoaa
open Go Go.RowKit Go.ChangeShapes Go.WideShapes Go.ChangeAt Go.Joins

theorem ownT : ownKnob Try.prog.godebug = none := by kernel_rfl
theorem laidT : laidOutB Try.prog = true := by kernel_rfl

section
variable {H : Type} {enc : TypeId × Value → H} {W : World} {r : Reach} {b0 : Nat} {v : Value} {d : DataW H} {p : List MemPlace}
theorem open_intsT (hv : Value.okWide Try.prog W r b0 34 v) (hlt : ∀ x ∈ p, x.block < W.heap.size) (h : DataW.Trod enc Try.prog W 0 (fun _ => true) true 34 v d p) : ∃ l : List Int, Rd W 1 v l.length (l.flatMap inC) := by
  refine open_rows inC 1 (by omega) inC_len Try.underlying34 (by kernel_rfl) (fun n cs y hy hl => ?_) (okWide_slice Try.underlying34 hv) hlt h
  obtain ⟨z, hz, _, _⟩ := DataW.trod_int Try.underlying3 hy
  exact ⟨z, hz⟩
theorem open_sessions (hv : Value.okWide Try.prog W r b0 22 v) (hlt : ∀ x ∈ p, x.block < W.heap.size) (h : DataW.Trod enc Try.prog W 0 (fun _ => true) true 22 v d p) : ∃ l : List Se, Rd W 3 v l.length (l.flatMap seC) := by
  refine open_rows seC 3 (by omega) seC_len Try.underlying22 (by kernel_rfl) (fun n cs y hy hl => ?_) (okWide_slice Try.underlying22 hv) hlt h
  obtain ⟨zs, hzl, hcs, _⟩ := struct_ints Try.underlying37 (by kernel_rfl) (by kernel_rfl) (fun j f hj => by
    match j, hj with
    | 0, hj => simp at hj; subst hj; exact Try.underlying3
    | 1, hj => simp at hj; subst hj; exact Try.underlying3
    | 2, hj => simp at hj; subst hj; exact Try.underlying3
    | j + 3, hj => simp at hj) hy
  match zs, hzl with
  | [a, b, c], _ => exact ⟨(a, b, c), hcs⟩
end

end Go.Proofs.Ytjjpoialoabfoaa
