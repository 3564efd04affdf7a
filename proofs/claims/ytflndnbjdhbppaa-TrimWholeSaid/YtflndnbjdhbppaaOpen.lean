/- The opening of a law's arguments. -/
import Derived.Test.YtflndnbjdhbppaaLaw
import Derived.Test.YtflndnbjdhbppaaKinds
import Derived.Lib.SmallJoins
namespace Go.Proofs.Ytflndnbjdhbppaa
open Go Go.RowKit Go.ChangeShapes Go.WideShapes Go.ChangeAt Go.Joins

theorem ownT : ownKnob Try.prog.godebug = none := by kernel_rfl
theorem laidT : laidOutB Try.prog = true := by kernel_rfl

section
variable {H : Type} {enc : TypeId × Value → H} {W : World} {r : Reach} {b0 : Nat} {v : Value} {d : DataW H} {p : List MemPlace}
theorem open_intsT (hv : Value.okWide Try.prog W r b0 37 v) (hlt : ∀ x ∈ p, x.block < W.heap.size) (h : DataW.Trod enc Try.prog W 0 (fun _ => true) true 37 v d p) : ∃ l : List Int, Rd W 1 v l.length (l.flatMap inC) := by
  refine open_rows inC 1 (by omega) inC_len Try.underlying37 (by kernel_rfl) (fun n cs y hy hl => ?_) (okWide_slice Try.underlying37 hv) hlt h
  obtain ⟨z, hz, _, _⟩ := DataW.trod_int Try.underlying3 hy
  exact ⟨z, hz⟩
theorem open_nodes (hv : Value.okWide Try.prog W r b0 40 v) (hlt : ∀ x ∈ p, x.block < W.heap.size) (h : DataW.Trod enc Try.prog W 0 (fun _ => true) true 40 v d p) : ∃ l : List Nq, Rd W 4 v l.length (l.flatMap noC) := by
  refine open_rows noC 4 (by omega) noC_len Try.underlying40 (by kernel_rfl) (fun n cs y hy hl => ?_) (okWide_slice Try.underlying40 hv) hlt h
  obtain ⟨zs, hzl, hcs, _⟩ := struct_ints Try.underlying58 (by kernel_rfl) (by kernel_rfl) (fun j f hj => by
    match j, hj with
    | 0, hj => simp at hj; subst hj; exact Try.underlying3
    | 1, hj => simp at hj; subst hj; exact Try.underlying3
    | 2, hj => simp at hj; subst hj; exact Try.underlying3
    | 3, hj => simp at hj; subst hj; exact Try.underlying3
    | j + 4, hj => simp at hj) hy
  match zs, hzl with
  | [a, b, c, d], _ => exact ⟨(a, b, c, d), hcs⟩
theorem open_loads (hv : Value.okWide Try.prog W r b0 46 v) (hlt : ∀ x ∈ p, x.block < W.heap.size) (h : DataW.Trod enc Try.prog W 0 (fun _ => true) true 46 v d p) : ∃ l : List Ld, Rd W 2 v l.length (l.flatMap ldC) := by
  refine open_rows ldC 2 (by omega) ldC_len Try.underlying46 (by kernel_rfl) (fun n cs y hy hl => ?_) (okWide_slice Try.underlying46 hv) hlt h
  obtain ⟨zs, hzl, hcs, _⟩ := struct_ints Try.underlying87 (by kernel_rfl) (by kernel_rfl) (fun j f hj => by
    match j, hj with
    | 0, hj => simp at hj; subst hj; exact Try.underlying3
    | 1, hj => simp at hj; subst hj; exact Try.underlying3
    | j + 2, hj => simp at hj) hy
  match zs, hzl with
  | [a, b], _ => exact ⟨(a, b), hcs⟩
theorem open_chunk (hv : Value.okWide Try.prog W r b0 39 v) (hlt : ∀ x ∈ p, x.block < W.heap.size) (h : DataW.Trod enc Try.prog W 0 (fun _ => true) true 39 v d p) :
    ∃ (c0 c1 c2 : Int) (vh : Value) (l : List Int), v = .agg #[.int .i64 c0, .int .i64 c1, .int .u32 c2, vh] ∧ Rd W 1 vh l.length (l.flatMap inC) := by
  obtain ⟨k0, k1, k2, k3, y0, y1, y2, y3, m, rfl, hd, hp, hy0, hy1, hy2, hy3⟩ := open_agg4 Try.underlying39 (by kernel_rfl) (by kernel_rfl) hv h
  obtain ⟨a, e0, _, _⟩ := DataW.trod_int Try.underlying3 hy0
  obtain ⟨b, e1, _, _⟩ := DataW.trod_int Try.underlying3 hy1
  obtain ⟨c, e2, _, _⟩ := DataW.trod_int Try.underlying36 hy2
  simp at e0 e1 e2
  subst e0 e1 e2
  obtain ⟨A, len, cap, e3⟩ := slice_form Try.underlying37 hy3
  simp at e3
  subst e3
  obtain ⟨l, hl⟩ : ∃ l : List Int, Rd W 1 (.slice A len cap) l.length (l.flatMap inC) := by
    refine open_rows inC 1 (by omega) inC_len Try.underlying37 (by kernel_rfl) (fun n cs y hy hl => ?_) ⟨_, _, _, rfl⟩ (fun x hx => hlt x (by rw [hp]; simp [hx])) (⟨m, by simpa [Value.cells] using hy3⟩ : DataW.Trod enc Try.prog W 0 (fun _ => true) true 37 (.slice A len cap) y3.1 y3.2)
    obtain ⟨z, hz, _, _⟩ := DataW.trod_int Try.underlying3 hy
    exact ⟨z, hz⟩
  exact ⟨a, b, c, _, l, rfl, hl⟩
end

end Go.Proofs.Ytflndnbjdhbppaa
