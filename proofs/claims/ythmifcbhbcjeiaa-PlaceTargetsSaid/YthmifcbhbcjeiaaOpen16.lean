/- The opening of a slice of nodes whose numbers fit. -/
import Derived.Test.YthmifcbhbcjeiaaOpen
namespace Go.Proofs.Ythmifcbhbcjeiaa
open Go Go.RowKit Go.ChangeShapes Go.WideShapes Go.ChangeAt Go.Joins

section
variable {H : Type} {enc : TypeId × Value → H} {W : World} {r : Reach} {b0 : Nat} {v : Value} {d : DataW H} {p : List MemPlace}
theorem open_nodesW (hv : Value.okWide Try.prog W r b0 22 v) (hlt : ∀ x ∈ p, x.block < W.heap.size) (h : DataW.Trod enc Try.prog W 0 (fun _ => true) true 22 v d p) : ∃ l : List Nq, (∀ x ∈ l, (Lit.int .i64 x.2.1).wf = true) ∧ Rd W 4 v l.length (l.flatMap noC) := by
  have : ∃ l : List {x : Nq // (Lit.int .i64 x.2.1).wf = true}, Rd W 4 v l.length (l.flatMap (fun x => noC x.1)) := by
    refine open_rows (α := {x : Nq // (Lit.int .i64 x.2.1).wf = true}) (fun x => noC x.1) 4 (by omega) (fun x => noC_len x.1) Try.underlying22 (by kernel_rfl) (fun n cs y hy hl => ?_) (okWide_slice Try.underlying22 hv) hlt h
    obtain ⟨zs, hzl, hcs, hw⟩ := struct_ints Try.underlying28 (by kernel_rfl) (by kernel_rfl) (fun j f hj => by
      match j, hj with
      | 0, hj => simp at hj; subst hj; exact Try.underlying3
      | 1, hj => simp at hj; subst hj; exact Try.underlying3
      | 2, hj => simp at hj; subst hj; exact Try.underlying3
      | 3, hj => simp at hj; subst hj; exact Try.underlying3
      | j + 4, hj => simp at hj) hy
    match zs, hzl, hw with
    | [a, b, c, d], _, hw => exact ⟨⟨(a, b, c, d), hw b (by simp)⟩, hcs⟩
  obtain ⟨l, hl⟩ := this
  refine ⟨l.map (·.1), fun x hx => ?_, ?_⟩
  · obtain ⟨y, _, rfl⟩ := List.mem_map.1 hx
    exact y.2
  · rw [List.length_map, List.flatMap_map]
    exact hl
end

end Go.Proofs.Ythmifcbhbcjeiaa
