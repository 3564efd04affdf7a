/- The opening of a law's arguments: replicas, ops on replicas. -/
import Derived.Test.YtncgpojjibojlaaOpen
import Derived.Test.YtncgpojjibojlaaKindsR
namespace Go.Proofs.Ytncgpojjibojlaa
open Go Go.RowKit Go.ChangeShapes Go.WideShapes Go.ChangeAt Go.Joins

/-- An op: its kind, its replica, the room. -/
abbrev Oq := Int × Re × Int
def oqC (o : Oq) : List Value := .int .i64 o.1 :: (reC o.2.1 ++ [.int .i64 o.2.2])
def oqV (o : Oq) : Value := .agg #[.int .i64 o.1, .int .i64 o.2.1.1, .int .i64 o.2.1.2.1, .int .u32 o.2.1.2.2.1, .bool o.2.1.2.2.2.1, .bool o.2.1.2.2.2.2, .int .i64 o.2.2]
theorem oqC_len (o : Oq) : (oqC o).length = 7 := rfl

theorem list5 {α : Type} {l : List α} (h : l.length = 5) : ∃ a b c d e, l = [a, b, c, d, e] := by
  match l, h with
  | [a, b, c, d, e], _ => exact ⟨a, b, c, d, e, rfl⟩
theorem list7 {α : Type} {l : List α} (h : l.length = 7) : ∃ a b c d e f g, l = [a, b, c, d, e, f, g] := by
  match l, h with
  | [a, b, c, d, e, f, g], _ => exact ⟨a, b, c, d, e, f, g, rfl⟩

section
variable {H : Type} {enc : TypeId × Value → H} {W : World} {r : Reach} {b0 : Nat} {v : Value} {d : DataW H} {p : List MemPlace}
set_option maxRecDepth 1000000 in
theorem cells_re : Try.prog.cellsOf 52 = 5 := by kernel_rfl
set_option maxRecDepth 1000000 in
theorem cells_int : Try.prog.cellsOf 3 = 1 := by kernel_rfl
set_option maxRecDepth 1000000 in
theorem cells_u32 : Try.prog.cellsOf 33 = 1 := by kernel_rfl
set_option maxRecDepth 1000000 in
theorem cells_boo : Try.prog.cellsOf 4 = 1 := by kernel_rfl
set_option maxRecDepth 1000000 in
theorem re_cells {n : Nat} {cs : List Value} {y : DataW H × List MemPlace} (h : DataW.trod enc Try.prog W 0 (fun _ => true) true n 52 cs = some y) : ∃ x : Re, cs = reC x := by
  obtain ⟨ys, n', _, _, hlen, hyl, hf⟩ := DataW.trod_struct Try.underlying52 h
  rw [cells_re] at hlen
  obtain ⟨c0, c1, c2, c3, c4, rfl⟩ := list5 hlen
  obtain ⟨y0, y1, y2, y3, y4, rfl⟩ := list5 hyl
  have h0 := hf 0 _ rfl
  have h1 := hf 1 _ rfl
  have h2 := hf 2 _ rfl
  have h3 := hf 3 _ rfl
  have h4 := hf 4 _ rfl
  simp [cells_int, cells_u32, cells_boo] at h0 h1 h2 h3 h4
  obtain ⟨a, e0, _, _⟩ := DataW.trod_int Try.underlying3 h0
  obtain ⟨b, e1, _, _⟩ := DataW.trod_int Try.underlying3 h1
  obtain ⟨c, e2, _, _⟩ := DataW.trod_int Try.underlying33 h2
  obtain ⟨s, e3, _⟩ := DataW.trod_bool Try.underlying4 h3
  obtain ⟨t, e4, _⟩ := DataW.trod_bool Try.underlying4 h4
  simp only [List.cons.injEq, and_true] at e0 e1 e2 e3 e4
  subst e0 e1 e2 e3 e4
  exact ⟨(a, b, c, s, t), rfl⟩
set_option maxRecDepth 1000000 in
theorem open_replicas (hv : Value.okWide Try.prog W r b0 41 v) (hlt : ∀ x ∈ p, x.block < W.heap.size) (h : DataW.Trod enc Try.prog W 0 (fun _ => true) true 41 v d p) : ∃ l : List Re, Rd W 5 v l.length (l.flatMap reC) := by
  refine open_rows reC 5 (by omega) reC_len Try.underlying41 cells_re (fun n cs y hy hl => ?_) (okWide_slice Try.underlying41 hv) hlt h
  exact re_cells hy
set_option maxRecDepth 1000000 in
theorem agg_of {t : TypeId} {fs : Array Field} (ht : Try.prog.underlying t = some (.struct fs)) (hv : Value.okWide Try.prog W r b0 t v) (h : DataW.Trod enc Try.prog W 0 (fun _ => true) true t v d p) {α : Type} (f : α → List Value)
    (hc : ∀ (n : Nat) (cs : List Value) (y : DataW H × List MemPlace), DataW.trod enc Try.prog W 0 (fun _ => true) true n t cs = some y → ∃ x, cs = f x) : ∃ x : α, v = .agg (f x).toArray := by
  obtain ⟨cs, rfl, hsz⟩ := okWide_struct ht hv
  obtain ⟨n, hn⟩ := h
  obtain ⟨x, hx⟩ := hc _ _ _ hn
  refine ⟨x, ?_⟩
  have : cs.toList = f x := by simpa [Value.cells] using hx
  rw [← this]
set_option maxRecDepth 1000000 in
theorem open_replica (hv : Value.okWide Try.prog W r b0 52 v) (h : DataW.Trod enc Try.prog W 0 (fun _ => true) true 52 v d p) : ∃ x : Re, v = .agg #[.int .i64 x.1, .int .i64 x.2.1, .int .u32 x.2.2.1, .bool x.2.2.2.1, .bool x.2.2.2.2] :=
  agg_of Try.underlying52 hv h reC (fun _ _ _ hy => re_cells hy)
set_option maxRecDepth 1000000 in
theorem oq_cells {n : Nat} {cs : List Value} {y : DataW H × List MemPlace} (h : DataW.trod enc Try.prog W 0 (fun _ => true) true n 69 cs = some y) : ∃ x : Oq, cs = oqC x := by
  obtain ⟨ys, n', _, _, hlen, hyl, hf⟩ := DataW.trod_struct Try.underlying69 h
  rw [show Try.prog.cellsOf 69 = 7 by kernel_rfl] at hlen
  obtain ⟨c0, c1, c2, c3, c4, c5, c6, rfl⟩ := list7 hlen
  obtain ⟨y0, y1, y2, rfl⟩ : ∃ a b c, ys = [a, b, c] := by
    match ys, hyl with
    | [a, b, c], _ => exact ⟨a, b, c, rfl⟩
  have h0 := hf 0 _ rfl
  have h1 := hf 1 _ rfl
  have h2 := hf 2 _ rfl
  simp [cells_int, cells_re] at h0 h1 h2
  obtain ⟨a, e0, _, _⟩ := DataW.trod_int Try.underlying3 h0
  obtain ⟨x, e1⟩ := re_cells h1
  obtain ⟨c, e2, _, _⟩ := DataW.trod_int Try.underlying3 h2
  simp only [List.cons.injEq, and_true] at e0 e2
  subst e0 e2
  exact ⟨(a, x, c), by simp [oqC, ← e1]⟩
set_option maxRecDepth 1000000 in
theorem open_op (hv : Value.okWide Try.prog W r b0 69 v) (h : DataW.Trod enc Try.prog W 0 (fun _ => true) true 69 v d p) : ∃ x : Oq, v = .agg #[.int .i64 x.1, .int .i64 x.2.1.1, .int .i64 x.2.1.2.1, .int .u32 x.2.1.2.2.1, .bool x.2.1.2.2.2.1, .bool x.2.1.2.2.2.2, .int .i64 x.2.2] :=
  agg_of Try.underlying69 hv h oqC (fun _ _ _ hy => oq_cells hy)
set_option maxRecDepth 1000000 in
theorem open_ops (hv : Value.okWide Try.prog W r b0 72 v) (hlt : ∀ x ∈ p, x.block < W.heap.size) (h : DataW.Trod enc Try.prog W 0 (fun _ => true) true 72 v d p) : ∃ l : List Oq, Rd W 7 v l.length (l.flatMap oqC) := by
  refine open_rows oqC 7 (by omega) oqC_len Try.underlying72 (by kernel_rfl) (fun n cs y hy hl => ?_) (okWide_slice Try.underlying72 hv) hlt h
  exact oq_cells hy
end

end Go.Proofs.Ytncgpojjibojlaa
