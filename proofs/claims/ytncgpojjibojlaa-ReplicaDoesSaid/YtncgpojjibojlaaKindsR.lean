/- How replicas lie in memory. -/
import Derived.Test.YtncgpojjibojlaaKinds
namespace Go.Proofs.Ytncgpojjibojlaa
open Go Go.RowKit

/-- Chunk, version, sum, being installed, spoilt. -/
abbrev Re := Int × Int × Int × Bool × Bool
def reC (x : Re) : List Value := [.int .i64 x.1, .int .i64 x.2.1, .int .u32 x.2.2.1, .bool x.2.2.2.1, .bool x.2.2.2.2]
def reV (x : Re) : Value := .agg #[.int .i64 x.1, .int .i64 x.2.1, .int .u32 x.2.2.1, .bool x.2.2.2.1, .bool x.2.2.2.2]
theorem reC_len (x : Re) : (reC x).length = 5 := rfl
theorem reC_one (l : List Re) : ∀ u ∈ l.flatMap reC, u.oneCell' = true := by
  intro u hu
  obtain ⟨x, _, hx⟩ := List.mem_flatMap.1 hu
  simp [reC] at hx
  rcases hx with rfl | rfl | rfl | rfl | rfl <;> rfl
/-- The cells of one replica. -/
theorem rd_re {w : World} {b off cap n : Nat} {l : List Re} (h : Rd w 5 (.slice (some ⟨b, off, none⟩) n cap) n (l.flatMap reC)) (i : Nat) (hi : i < l.length) :
    w.cell? ⟨b, off + i * 5, none⟩ = some (.int .i64 (at_ l i).1) ∧ w.cell? ⟨b, off + i * 5 + 1, none⟩ = some (.int .i64 (at_ l i).2.1) ∧ w.cell? ⟨b, off + i * 5 + 1 + 1, none⟩ = some (.int .u32 (at_ l i).2.2.1) ∧
    w.cell? ⟨b, off + i * 5 + 1 + 1 + 1, none⟩ = some (.bool (at_ l i).2.2.2.1) ∧ w.cell? ⟨b, off + i * 5 + 1 + 1 + 1 + 1, none⟩ = some (.bool (at_ l i).2.2.2.2) := by
  have hn : n = l.length := by have := h.1; rw [flat_len reC 5 reC_len] at this; omega
  obtain ⟨b', off', cap', hv, _, _, _, hc⟩ := h.form (by omega)
  injection hv with h1 h2 h3
  injection h1 with h1
  injection h1 with h4 h5
  subst h4 h5
  have hg := at_get hi
  have f0 := flat_get reC 5 reC_len l i 0 (by omega)
  have f1 := flat_get reC 5 reC_len l i 1 (by omega)
  have f2 := flat_get reC 5 reC_len l i 2 (by omega)
  have f3 := flat_get reC 5 reC_len l i 3 (by omega)
  have f4 := flat_get reC 5 reC_len l i 4 (by omega)
  rw [hg] at f0 f1 f2 f3 f4
  exact ⟨hc _ _ f0, hc _ _ f1, hc _ _ f2, hc _ _ f3, hc _ _ f4⟩

end Go.Proofs.Ytncgpojjibojlaa
