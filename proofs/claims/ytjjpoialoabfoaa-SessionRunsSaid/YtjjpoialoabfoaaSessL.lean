/- Sessions: what holds of Look and Put as plain functions. No program in sight. -/
import Derived.Test.YtjjpoialoabfoaaSessM
namespace Go.Proofs.Ytjjpoialoabfoaa
open Go

theorem Ris.find_iff {α : Type} [Inhabited α] {key : α → Int} {l : List α} (h : Ris key l) {c : Int} {y : α} : l.find? (fun x => key x == c) = some y ↔ y ∈ l ∧ key y = c := by
  constructor
  · intro hf
    exact ⟨List.mem_of_find?_eq_some hf, by simpa using List.find?_some hf⟩
  · rintro ⟨h1, rfl⟩
    exact h.find_mem h1
theorem Ris.cut {α : Type} [Inhabited α] {key : α → Int} {l : List α} (h : Ris key l) (c : Int) : ∃ i, Cut key l c i := by
  induction l with
  | nil => exact ⟨0, Cut.nil⟩
  | cons x l ih =>
    obtain ⟨h1, h2⟩ := List.pairwise_cons.1 h
    by_cases hx : key x < c
    · obtain ⟨i, ci⟩ := ih h2
      refine ⟨i + 1, ⟨by have := ci.le; simp; omega, fun j hj => ?_, fun j hj hl => ?_⟩⟩
      · cases j with
        | zero => exact hx
        | succ j => exact ci.lo j (by omega)
      · cases j with
        | zero => omega
        | succ j => exact ci.hi j (by omega) (by simpa using hl)
    · refine ⟨0, ⟨Nat.zero_le _, fun j hj => absurd hj (by omega), fun j _ hl => ?_⟩⟩
      cases j with
      | zero => show c ≤ key x; omega
      | succ j =>
        have hj : j < l.length := by simpa using hl
        have := h1 (at_ l j) (at_mem hj)
        show c ≤ key (at_ l j)
        omega
theorem putS_mem {l : List Se} {x y : Se} : y ∈ putS l x ↔ y = x ∨ (y ∈ l ∧ y.1 ≠ x.1) := by
  unfold putS
  simp only [List.mem_append, List.mem_filter, List.mem_cons, decide_eq_true_eq]
  constructor
  · rintro (⟨h1, h2⟩ | h | ⟨h1, h2⟩)
    · exact .inr ⟨h1, by omega⟩
    · exact .inl h
    · exact .inr ⟨h1, by omega⟩
  · rintro (h | ⟨h1, h2⟩)
    · exact .inr (.inl h)
    · rcases Int.lt_or_gt_of_ne h2 with h | h
      · exact .inl ⟨h1, h⟩
      · exact .inr (.inr ⟨h1, h⟩)
theorem putS_ris {l : List Se} (h : Ris key_se l) (x : Se) : Ris key_se (putS l x) := by
  unfold putS
  refine List.pairwise_append.2 ⟨h.sublist List.filter_sublist, List.pairwise_cons.2 ⟨fun y hy => ?_, h.sublist List.filter_sublist⟩, fun y hy z hz => ?_⟩
  · have : x.1 < y.1 := by simpa using (List.mem_filter.1 hy).2
    exact this
  · have h1 : y.1 < x.1 := by simpa using (List.mem_filter.1 hy).2
    rcases List.mem_cons.1 hz with rfl | hz
    · exact h1
    · have h2 : x.1 < z.1 := by simpa using (List.mem_filter.1 hz).2
      show y.1 < z.1
      omega
theorem putS_find {l : List Se} (h : Ris key_se l) (x : Se) (c : Int) : (putS l x).find? (fun y => key_se y == c) = if c = x.1 then some x else l.find? (fun y => key_se y == c) := by
  apply Option.ext
  intro y
  rw [(putS_ris h x).find_iff, putS_mem]
  by_cases e : c = x.1
  · rw [if_pos e]
    constructor
    · rintro ⟨rfl | ⟨_, h2⟩, h3⟩
      · rfl
      · exact absurd (h3.trans e) h2
    · intro h1
      injection h1 with h1
      subst h1
      exact ⟨.inl rfl, e.symm⟩
  · rw [if_neg e, h.find_iff]
    constructor
    · rintro ⟨rfl | ⟨h1, _⟩, h3⟩
      · exact absurd h3.symm e
      · exact ⟨h1, h3⟩
    · rintro ⟨h1, h3⟩
      exact ⟨.inr ⟨h1, fun h4 => e (h3.symm.trans h4)⟩, h3⟩
theorem putS_len {l : List Se} (h : Ris key_se l) (x : Se) : (putS l x).length = l.length + if (l.find? (fun y => key_se y == x.1)).isNone then 1 else 0 := by
  obtain ⟨i, c⟩ := h.cut x.1
  rw [← putAt_eq h c]
  have hi := c.isAt_iff h
  unfold putAt
  by_cases ha : isAt key_se l x.1 i = true
  · rw [if_pos ha, List.length_set]
    rw [ha] at hi
    rw [if_neg]
    · rfl
    · intro hn
      cases hf : l.find? (fun y => key_se y == x.1) with
      | none => rw [hf] at hi; simp at hi
      | some y => rw [hf] at hn; simp at hn
  · rw [if_neg ha]
    have ha' : isAt key_se l x.1 i = false := by simpa using ha
    rw [ha'] at hi
    rw [if_pos]
    · have := c.le
      simp
      omega
    · cases hf : l.find? (fun y => key_se y == x.1) with
      | none => rfl
      | some y => rw [hf] at hi; simp at hi
theorem putS_may {l : List Se} (h : MaySL l) {x : Se} (hx : maySP x) (hl : ¬ ((l.find? (fun y => key_se y == x.1)).isNone = true ∧ 16 ≤ l.length)) : MaySL (putS l x) := by
  refine ⟨putS_ris h.ris x, fun y hy => ?_, ?_⟩
  · rcases putS_mem.1 hy with rfl | ⟨h1, _⟩
    · exact hx
    · exact h.2.1 y h1
  · rw [putS_len h.ris]
    have := h.2.2
    split
    · rename_i hn
      have : ¬ 16 ≤ l.length := fun h1 => hl ⟨hn, h1⟩
      omega
    · omega

/-- What it means that Put answers no error. -/
theorem putSE_ok {l : List Se} {c q : Int} (h : putSE l c q = 0) : MaySL l ∧ maySP (c, q, 0) ∧ q = (sesS l c).2.1 + 1 ∧ ¬ ((l.find? (fun y => key_se y == c)).isNone = true ∧ 16 ≤ l.length) := by
  unfold putSE at h
  split at h
  · omega
  · rename_i h1
    split at h
    · omega
    · rename_i h2
      split at h
      · omega
      · rename_i h3
        have h1' : (lookS l c q).2.2 = 0 := by simpa using h1
        unfold lookS at h1' h2
        split at h1'
        · simp at h1'
        · rename_i g0
          rw [if_neg g0] at h2
          have g1 : maySL l = true := by
            cases e : maySL l with
            | true => rfl
            | false => exact absurd (.inl e) g0
          have g2 : mayS (c, q, 0) = true := by
            cases e : mayS (c, q, 0) with
            | true => rfl
            | false => exact absurd (.inr e) g0
          refine ⟨of_decide_eq_true g1, of_decide_eq_true g2, ?_, h3⟩
          split at h1'
          · simp at h1'
          · rename_i g3
            split at h1'
            · rename_i g4
              rw [if_neg g3, if_pos g4] at h2
              simp at h2
            · rename_i g4
              split at h1'
              · simp at h1'
              · omega
/-- And what makes it so. -/
theorem putSE_of {l : List Se} {c q : Int} (h1 : MaySL l) (h2 : maySP (c, q, 0)) : putSE l c q = if q < (sesS l c).2.1 then 9 else if q = (sesS l c).2.1 then 6 else if q > (sesS l c).2.1 + 1 then 10 else if (l.find? (fun y => key_se y == c)).isNone = true ∧ 16 ≤ l.length then 7 else 0 := by
  have g1 : maySL l = true := decide_eq_true h1
  have g2 : mayS (c, q, 0) = true := decide_eq_true h2
  have hl : lookS l c q = if q < (sesS l c).2.1 then (0, false, 9) else if q = (sesS l c).2.1 then ((sesS l c).2.2, true, 0) else if q > (sesS l c).2.1 + 1 then (0, false, 10) else (0, false, 0) := by
    unfold lookS
    rw [if_neg (by simp [g1, g2])]
  unfold putSE
  by_cases a1 : q < (sesS l c).2.1
  · rw [if_pos a1] at hl; rw [hl, if_pos a1]; simp
  · rw [if_neg a1] at hl
    rw [if_neg a1]
    by_cases a2 : q = (sesS l c).2.1
    · rw [if_pos a2] at hl; rw [hl, if_pos a2]; simp
    · rw [if_neg a2] at hl
      rw [if_neg a2]
      by_cases a3 : q > (sesS l c).2.1 + 1
      · rw [if_pos a3] at hl; rw [hl, if_pos a3]; simp
      · rw [if_neg a3] at hl; rw [hl, if_neg a3]; simp
theorem sesS_put {l : List Se} (h : Ris key_se l) (x : Se) (c : Int) : sesS (putS l x) c = if c = x.1 then x else sesS l c := by
  unfold sesS
  rw [putS_find h]
  split <;> rfl
theorem lookS_may {l : List Se} {c q : Int} (h1 : MaySL l) : lookS l c q = if mayS (c, q, 0) = false then (0, false, 1) else if q < (sesS l c).2.1 then (0, false, 9) else if q = (sesS l c).2.1 then ((sesS l c).2.2, true, 0) else if q > (sesS l c).2.1 + 1 then (0, false, 10) else (0, false, 0) := by
  have g1 : maySL l = true := decide_eq_true h1
  unfold lookS
  by_cases h : mayS (c, q, 0) = false
  · rw [if_pos (.inr h), if_pos h]
  · rw [if_neg (by simp [g1] at *; exact h), if_neg h]

end Go.Proofs.Ytjjpoialoabfoaa
