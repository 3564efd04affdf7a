/- The opening of a law's arguments. -/
import Derived.Test.YthmifcbhbcjeiaaLaw
import Derived.Test.YthmifcbhbcjeiaaKinds
import Derived.Lib.SmallJoins
namespace Go.Proofs.Ythmifcbhbcjeiaa
open Go Go.RowKit Go.ChangeShapes Go.WideShapes Go.ChangeAt Go.Joins

theorem ownT : ownKnob Try.prog.godebug = none := by kernel_rfl
theorem laidT : laidOutB Try.prog = true := by kernel_rfl

section
variable {H : Type} {enc : TypeId × Value → H} {W : World} {r : Reach} {b0 : Nat} {v : Value} {d : DataW H} {p : List MemPlace}
theorem open_intsT (hv : Value.okWide Try.prog W r b0 23 v) (hlt : ∀ x ∈ p, x.block < W.heap.size) (h : DataW.Trod enc Try.prog W 0 (fun _ => true) true 23 v d p) : ∃ l : List Int, Rd W 1 v l.length (l.flatMap inC) := by
  refine open_rows inC 1 (by omega) inC_len Try.underlying23 (by kernel_rfl) (fun n cs y hy hl => ?_) (okWide_slice Try.underlying23 hv) hlt h
  obtain ⟨z, hz, _, _⟩ := DataW.trod_int Try.underlying3 hy
  exact ⟨z, hz⟩
theorem open_nodes (hv : Value.okWide Try.prog W r b0 22 v) (hlt : ∀ x ∈ p, x.block < W.heap.size) (h : DataW.Trod enc Try.prog W 0 (fun _ => true) true 22 v d p) : ∃ l : List Nq, Rd W 4 v l.length (l.flatMap noC) := by
  refine open_rows noC 4 (by omega) noC_len Try.underlying22 (by kernel_rfl) (fun n cs y hy hl => ?_) (okWide_slice Try.underlying22 hv) hlt h
  obtain ⟨zs, hzl, hcs, _⟩ := struct_ints Try.underlying28 (by kernel_rfl) (by kernel_rfl) (fun j f hj => by
    match j, hj with
    | 0, hj => simp at hj; subst hj; exact Try.underlying3
    | 1, hj => simp at hj; subst hj; exact Try.underlying3
    | 2, hj => simp at hj; subst hj; exact Try.underlying3
    | 3, hj => simp at hj; subst hj; exact Try.underlying3
    | j + 4, hj => simp at hj) hy
  match zs, hzl with
  | [a, b, c, d], _ => exact ⟨(a, b, c, d), hcs⟩
theorem open_node (hv : Value.okWide Try.prog W r b0 28 v) (h : DataW.Trod enc Try.prog W 0 (fun _ => true) true 28 v d p) : ∃ x : Nq, v = .agg #[.int .i64 x.1, .int .i64 x.2.1, .int .i64 x.2.2.1, .int .i64 x.2.2.2] := by
  obtain ⟨c0, c1, c2, c3, y0, y1, y2, y3, m, rfl, rfl, rfl, hy0, hy1, hy2, hy3⟩ := open_agg4 Try.underlying28 (by kernel_rfl) (by kernel_rfl) hv h
  obtain ⟨a, e0, _, _⟩ := DataW.trod_int Try.underlying3 hy0
  obtain ⟨b, e1, _, _⟩ := DataW.trod_int Try.underlying3 hy1
  obtain ⟨c, e2, _, _⟩ := DataW.trod_int Try.underlying3 hy2
  obtain ⟨f, e3, _, _⟩ := DataW.trod_int Try.underlying3 hy3
  simp at e0 e1 e2 e3
  subst e0 e1 e2 e3
  exact ⟨(a, b, c, f), rfl⟩
theorem open_items (hv : Value.okWide Try.prog W r b0 36 v) (hlt : ∀ x ∈ p, x.block < W.heap.size) (h : DataW.Trod enc Try.prog W 0 (fun _ => true) true 36 v d p) : ∃ l : List Nq, Rd W 4 v l.length (l.flatMap itC) := by
  refine open_rows itC 4 (by omega) itC_len Try.underlying36 (by kernel_rfl) (fun n cs y hy hl => ?_) (okWide_slice Try.underlying36 hv) hlt h
  obtain ⟨zs, hzl, hcs, _⟩ := struct_ints Try.underlying41 (by kernel_rfl) (by kernel_rfl) (fun j f hj => by
    match j, hj with
    | 0, hj => simp at hj; subst hj; exact Try.underlying3
    | 1, hj => simp at hj; subst hj; exact Try.underlying3
    | 2, hj => simp at hj; subst hj; exact Try.underlying3
    | 3, hj => simp at hj; subst hj; exact Try.underlying3
    | j + 4, hj => simp at hj) hy
  match zs, hzl with
  | [a, b, c, d], _ => exact ⟨(a, b, c, d), hcs⟩
theorem open_loads (hv : Value.okWide Try.prog W r b0 43 v) (hlt : ∀ x ∈ p, x.block < W.heap.size) (h : DataW.Trod enc Try.prog W 0 (fun _ => true) true 43 v d p) : ∃ l : List Ld, Rd W 2 v l.length (l.flatMap ldC) := by
  refine open_rows ldC 2 (by omega) ldC_len Try.underlying43 (by kernel_rfl) (fun n cs y hy hl => ?_) (okWide_slice Try.underlying43 hv) hlt h
  obtain ⟨zs, hzl, hcs, _⟩ := struct_ints Try.underlying63 (by kernel_rfl) (by kernel_rfl) (fun j f hj => by
    match j, hj with
    | 0, hj => simp at hj; subst hj; exact Try.underlying3
    | 1, hj => simp at hj; subst hj; exact Try.underlying3
    | j + 2, hj => simp at hj) hy
  match zs, hzl with
  | [a, b], _ => exact ⟨(a, b), hcs⟩
end

end Go.Proofs.Ythmifcbhbcjeiaa
