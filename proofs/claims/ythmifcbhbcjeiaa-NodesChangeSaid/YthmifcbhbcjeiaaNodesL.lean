/- nodes.Add: what holds of it as a plain function. -/
import Derived.Test.YthmifcbhbcjeiaaNodesA
namespace Go.Proofs.Ythmifcbhbcjeiaa
open Go Go.RowKit

theorem Ris.find_iff {α : Type} [Inhabited α] {key : α → Int} {l : List α} (h : Ris key l) {c : Int} {y : α} : l.find? (fun x => key x == c) = some y ↔ y ∈ l ∧ key y = c := by
  constructor
  · intro hf
    exact ⟨List.mem_of_find?_eq_some hf, by simpa using List.find?_some hf⟩
  · rintro ⟨h1, rfl⟩
    exact h.find_mem h1
theorem putN_mem {l : List Nq} {x y : Nq} : y ∈ putN l x ↔ y = x ∨ (y ∈ l ∧ y.1 ≠ x.1) := by
  unfold putN
  simp only [List.mem_append, List.mem_filter, List.mem_cons, decide_eq_true_eq]
  constructor
  · rintro (⟨h1, h2⟩ | h | ⟨h1, h2⟩)
    · exact .inr ⟨h1, by omega⟩
    · exact .inl h
    · exact .inr ⟨h1, by omega⟩
  · rintro (h | ⟨h1, h2⟩)
    · exact .inr (.inl h)
    · rcases Int.lt_or_gt_of_ne h2 with h | h
      · exact .inl ⟨h1, h⟩
      · exact .inr (.inr ⟨h1, h⟩)
theorem putN_ris {l : List Nq} (h : Ris noI l) (x : Nq) : Ris noI (putN l x) := by
  unfold putN
  refine List.pairwise_append.2 ⟨h.sublist List.filter_sublist, List.pairwise_cons.2 ⟨fun y hy => ?_, h.sublist List.filter_sublist⟩, fun y hy z hz => ?_⟩
  · have : x.1 < y.1 := by simpa using (List.mem_filter.1 hy).2
    exact this
  · have h1 : y.1 < x.1 := by simpa using (List.mem_filter.1 hy).2
    rcases List.mem_cons.1 hz with rfl | hz
    · exact h1
    · have h2 : x.1 < z.1 := by simpa using (List.mem_filter.1 hz).2
      show y.1 < z.1
      omega
theorem putN_find {l : List Nq} (h : Ris noI l) (x : Nq) (c : Int) : (putN l x).find? (fun y => noI y == c) = if c = x.1 then some x else l.find? (fun y => noI y == c) := by
  apply Option.ext
  intro y
  rw [(putN_ris h x).find_iff, putN_mem]
  by_cases e : c = x.1
  · rw [if_pos e]
    constructor
    · rintro ⟨rfl | ⟨_, h2⟩, h3⟩
      · rfl
      · exact absurd (h3.trans e) h2
    · intro h1
      injection h1 with h1
      subst h1
      exact ⟨.inl rfl, e.symm⟩
  · rw [if_neg e, h.find_iff]
    constructor
    · rintro ⟨rfl | ⟨h1, _⟩, h3⟩
      · exact absurd h3.symm e
      · exact ⟨h1, h3⟩
    · rintro ⟨h1, h3⟩
      exact ⟨.inr ⟨h1, fun h4 => e (h3.symm.trans h4)⟩, h3⟩
theorem putN_may {l : List Nq} (h : mayL l = true) {x : Nq} (hx : mayN x = true) : mayL (putN l x) = true := by
  obtain ⟨h1, h2⟩ := (mayL_iff l).1 h
  refine (mayL_iff _).2 ⟨putN_ris h1 x, fun y hy => ?_⟩
  rcases putN_mem.1 hy with rfl | ⟨h3, _⟩
  · exact of_decide_eq_true hx
  · exact h2 y h3
theorem addE_ok {l : List Nq} {x : Nq} (h : addE l x = 0) : mayN x = true ∧ x.2.2.2 = 0 ∧ findL l x.1 = none ∧ addO l x = putN (fairL l) x ∧ mayL (addO l x) = true := by
  have ho : addO l x = putN (fairL l) x := by unfold addO; rw [if_pos h]
  unfold addE at h
  split at h
  · omega
  · rename_i h1
    split at h
    · omega
    · rename_i h2
      have g1 : mayN x = true := by
        cases e : mayN x with
        | true => rfl
        | false => exact absurd (.inl e) h1
      have g2 : x.2.2.2 = 0 := by
        by_cases e : x.2.2.2 = 0
        · exact e
        · exact absurd (.inr e) h1
      exact ⟨g1, g2, by simpa using h2, ho, by rw [ho]; exact putN_may (fairL_mayL l) g1⟩
theorem add_find {l : List Nq} {x : Nq} (h : addE l x = 0) (c : Int) : findL (addO l x) c = if c = x.1 then some x else findL l c := by
  obtain ⟨_, _, _, g4, g5⟩ := addE_ok h
  have e : findL (addO l x) c = (addO l x).find? (fun y => noI y == c) := by unfold findL; rw [fairL_of g5]
  rw [e, g4, putN_find (fairL_ris l)]
  rfl
theorem add_len {l : List Nq} {x : Nq} : (addO l x).length ≤ 2 * l.length + 1 := by
  unfold addO
  split
  · unfold putN
    have h1 := List.length_filter_le (fun y : Nq => decide (y.1 < x.1)) (fairL l)
    have h2 := List.length_filter_le (fun y : Nq => decide (x.1 < y.1)) (fairL l)
    have h3 := fairL_len l
    simp only [List.length_append, List.length_cons]
    omega
  · simp


end Go.Proofs.Ythmifcbhbcjeiaa
