/- nodes.Set: what holds of it as a plain function. -/
import Derived.Test.YthmifcbhbcjeiaaNodesS
namespace Go.Proofs.Ythmifcbhbcjeiaa
open Go Go.RowKit

theorem at_map {α β : Type} [Inhabited α] [Inhabited β] (f : α → β) (l : List α) (i : Nat) (h : i < l.length) : at_ (l.map f) i = f (at_ l i) := by
  rw [at_eq (by simpa using h), at_eq h, List.getElem_map]
theorem setIn_may {l : List Nq} (h : mayL l = true) {id st : Int} (hs : btw 0 2 st = true) : mayL (setIn l id st) = true := by
  obtain ⟨h1, h2⟩ := (mayL_iff l).1 h
  have hst := of_decide_eq_true hs
  refine (mayL_iff _).2 ⟨?_, fun y hy => ?_⟩
  · refine List.pairwise_map.2 (h1.imp fun {a b} hab => ?_)
    have e : ∀ x : Nq, noI (if noI x = id then withS x st else x) = noI x := fun x => by split <;> rfl
    rw [e, e]
    exact hab
  · obtain ⟨x, hx, rfl⟩ := List.mem_map.1 hy
    have hm := h2 x hx
    split
    · exact ⟨hm.1, hm.2.1, hm.2.2.1, hst⟩
    · exact hm
/-- What Set leaves, if it answers no error. -/
theorem setE_ok {l : List Nq} (h : mayL l = true) {id st : Int} (he : setE l id st = 0) : setO l id st = setIn l id st ∧ btw 0 2 st = true ∧ ∀ x ∈ l, noI x = id → x.2.2.2 ≠ 2 ∧ ¬ (x.2.2.2 = 0 ∧ st = 2) := by
  refine ⟨by unfold setO; rw [if_pos he, fairL_of h], ?_, ?_⟩
  · unfold setE at he
    split at he
    · omega
    · split at he
      · omega
      · rename_i hh; simpa using hh
  · intro x hx hid
    have hf : findL l id = some x := by
      unfold findL
      rw [fairL_of h, ← hid]
      exact ((mayL_iff l).1 h).1.find_mem hx
    unfold setE at he
    rw [hf] at he
    simp only at he
    split at he
    · omega
    · split at he
      · omega
      · rename_i hh; exact ⟨fun e => hh (.inl e), fun e => hh (.inr e)⟩

theorem setO_may (l : List Nq) (id st : Int) : mayL (setO l id st) = true := by
  by_cases h : setE l id st = 0
  · unfold setO
    rw [if_pos h]
    refine setIn_may (fairL_mayL l) ?_
    unfold setE at h
    split at h
    · omega
    · split at h
      · omega
      · rename_i hh; simpa using hh
  · unfold setO
    rw [if_neg h]
    rfl

end Go.Proofs.Ythmifcbhbcjeiaa
