/- How the laws' kinds of things lie in memory. -/
import Derived.Test.YtncgpojjibojlaaRise
namespace Go.Proofs.Ytncgpojjibojlaa
open Go Go.RowKit

def inC (z : Int) : List Value := [.int .i64 z]
theorem inC_len (z : Int) : (inC z).length = 1 := rfl
theorem inC_one (l : List Int) : ∀ u ∈ l.flatMap inC, u.oneCell' = true := by
  intro u hu
  obtain ⟨x, _, hx⟩ := List.mem_flatMap.1 hu
  simp [inC] at hx
  subst hx
  rfl
abbrev Nq := Int × Int × Int × Int
def noC (x : Nq) : List Value := [.int .i64 x.1, .int .i64 x.2.1, .int .i64 x.2.2.1, .int .i64 x.2.2.2]
theorem noC_len (x : Nq) : (noC x).length = 4 := rfl
theorem noC_one (l : List Nq) : ∀ u ∈ l.flatMap noC, u.oneCell' = true := by
  intro u hu
  obtain ⟨x, _, hx⟩ := List.mem_flatMap.1 hu
  simp [noC] at hx
  rcases hx with rfl | rfl | rfl | rfl <;> rfl
/-- An item of a script: the same four numbers. -/
abbrev itC (x : Nq) : List Value := noC x
theorem itC_len (x : Nq) : (itC x).length = 4 := rfl
abbrev Ld := Int × Int
def ldC (x : Ld) : List Value := [.int .i64 x.1, .int .i64 x.2]
theorem ldC_len (x : Ld) : (ldC x).length = 2 := rfl
theorem ldC_one (l : List Ld) : ∀ u ∈ l.flatMap ldC, u.oneCell' = true := by
  intro u hu
  obtain ⟨x, _, hx⟩ := List.mem_flatMap.1 hu
  simp [ldC] at hx
  rcases hx with rfl | rfl <;> rfl
abbrev Se := Int × Int × Int
def seC (x : Se) : List Value := [.int .i64 x.1, .int .i64 x.2.1, .int .i64 x.2.2]
def key_se (x : Se) : Int := x.1
theorem seC_len (x : Se) : (seC x).length = 3 := rfl
theorem seC_one (l : List Se) : ∀ u ∈ l.flatMap seC, u.oneCell' = true := by
  intro u hu
  obtain ⟨x, _, hx⟩ := List.mem_flatMap.1 hu
  simp [seC] at hx
  rcases hx with rfl | rfl | rfl <;> rfl

theorem below_one (w : World) (o : Obj) : Below w.heap.size w (w.alloc o) := (Below.refl _ _).alloc (Nat.le_refl _) o
/-- The cell of one number. -/
theorem rd_int {w : World} {b off cap n : Nat} {l : List Int} (h : Rd w 1 (.slice (some ⟨b, off, none⟩) n cap) n (l.flatMap inC)) (i : Nat) (hi : i < l.length) : w.cell? ⟨b, off + i, none⟩ = some (.int .i64 (at_ l i)) := by
  have hn : n = l.length := by have := h.1; rw [flat_len inC 1 inC_len] at this; omega
  obtain ⟨b', off', cap', hv, _, _, _, hc⟩ := h.form (by omega)
  injection hv with h1 h2 h3
  injection h1 with h1
  injection h1 with h4 h5
  subst h4 h5
  have f0 := flat_get inC 1 inC_len l i 0 (by omega)
  rw [at_get hi] at f0
  have := hc _ _ f0
  simpa using this
/-- The cells of one node. -/
theorem rd_no {w : World} {b off cap n : Nat} {l : List Nq} (h : Rd w 4 (.slice (some ⟨b, off, none⟩) n cap) n (l.flatMap noC)) (i : Nat) (hi : i < l.length) :
    w.cell? ⟨b, off + i * 4, none⟩ = some (.int .i64 (at_ l i).1) ∧ w.cell? ⟨b, off + i * 4 + 1, none⟩ = some (.int .i64 (at_ l i).2.1) ∧ w.cell? ⟨b, off + i * 4 + 1 + 1, none⟩ = some (.int .i64 (at_ l i).2.2.1) ∧ w.cell? ⟨b, off + i * 4 + 1 + 1 + 1, none⟩ = some (.int .i64 (at_ l i).2.2.2) := by
  have hn : n = l.length := by have := h.1; rw [flat_len noC 4 noC_len] at this; omega
  obtain ⟨b', off', cap', hv, _, _, _, hc⟩ := h.form (by omega)
  injection hv with h1 h2 h3
  injection h1 with h1
  injection h1 with h4 h5
  subst h4 h5
  have hg := at_get hi
  have f0 := flat_get noC 4 noC_len l i 0 (by omega)
  have f1 := flat_get noC 4 noC_len l i 1 (by omega)
  have f2 := flat_get noC 4 noC_len l i 2 (by omega)
  have f3 := flat_get noC 4 noC_len l i 3 (by omega)
  rw [hg] at f0 f1 f2 f3
  exact ⟨hc _ _ f0, hc _ _ f1, hc _ _ f2, hc _ _ f3⟩
/-- The cells of one load. -/
theorem rd_ld {w : World} {b off cap n : Nat} {l : List Ld} (h : Rd w 2 (.slice (some ⟨b, off, none⟩) n cap) n (l.flatMap ldC)) (i : Nat) (hi : i < l.length) :
    w.cell? ⟨b, off + i * 2, none⟩ = some (.int .i64 (at_ l i).1) ∧ w.cell? ⟨b, off + i * 2 + 1, none⟩ = some (.int .i64 (at_ l i).2) := by
  have hn : n = l.length := by have := h.1; rw [flat_len ldC 2 ldC_len] at this; omega
  obtain ⟨b', off', cap', hv, _, _, _, hc⟩ := h.form (by omega)
  injection hv with h1 h2 h3
  injection h1 with h1
  injection h1 with h4 h5
  subst h4 h5
  have hg := at_get hi
  have f0 := flat_get ldC 2 ldC_len l i 0 (by omega)
  have f1 := flat_get ldC 2 ldC_len l i 1 (by omega)
  rw [hg] at f0 f1
  exact ⟨hc _ _ f0, hc _ _ f1⟩
/-- The cells of one session. -/
theorem rd_se {w : World} {b off cap n : Nat} {l : List Se} (h : Rd w 3 (.slice (some ⟨b, off, none⟩) n cap) n (l.flatMap seC)) (i : Nat) (hi : i < l.length) :
    w.cell? ⟨b, off + i * 3, none⟩ = some (.int .i64 (at_ l i).1) ∧ w.cell? ⟨b, off + i * 3 + 1, none⟩ = some (.int .i64 (at_ l i).2.1) ∧ w.cell? ⟨b, off + i * 3 + 1 + 1, none⟩ = some (.int .i64 (at_ l i).2.2) := by
  have hn : n = l.length := by have := h.1; rw [flat_len seC 3 seC_len] at this; omega
  obtain ⟨b', off', cap', hv, _, _, _, hc⟩ := h.form (by omega)
  injection hv with h1 h2 h3
  injection h1 with h1
  injection h1 with h4 h5
  subst h4 h5
  have hg := at_get hi
  have f0 := flat_get seC 3 seC_len l i 0 (by omega)
  have f1 := flat_get seC 3 seC_len l i 1 (by omega)
  have f2 := flat_get seC 3 seC_len l i 2 (by omega)
  rw [hg] at f0 f1 f2
  exact ⟨hc _ _ f0, hc _ _ f1, hc _ _ f2⟩

theorem Rd.shape {w : World} {size : Nat} {v : Value} {n : Nat} {xs : List Value} (h : Rd w size v n xs) : ∃ A cap, v = .slice A n cap ∧ cap ≤ 9223372036854775807 ∧ n ≤ cap := by
  obtain ⟨_, A, cap, hv, h2, h3, _⟩ := h
  exact ⟨A, cap, hv, by unfold maxLen at h3; omega, h2⟩
/-- Where there is an element the slice has an address. -/
theorem Rd.addr {w : World} {size : Nat} {A : Option Addr} {cap n : Nat} {xs : List Value} (h : Rd w size (.slice A n cap) n xs) (hn : 0 < n) : ∃ b off, A = some ⟨b, off, none⟩ ∧ b < w.heap.size := by
  obtain ⟨b, off, cap', hv, _, _, hb, _⟩ := h.form hn
  injection hv with h1 h2 h3
  exact ⟨b, off, h1, hb⟩

end Go.Proofs.Ytncgpojjibojlaa
