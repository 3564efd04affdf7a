/- Lists that rise by a key: where a key stands, what is found, what is put in. No program in sight. -/
import Derived.Test.YtncgpojjibojlaaFlat
namespace Go.Proofs.Ytncgpojjibojlaa
open Go

def at_ {α : Type} [Inhabited α] (l : List α) (i : Nat) : α := l.getD i default
theorem at_get {α : Type} [Inhabited α] {l : List α} {i : Nat} (h : i < l.length) : l[i]? = some (at_ l i) := by simp [at_, h]
theorem at_eq {α : Type} [Inhabited α] {l : List α} {i : Nat} (h : i < l.length) : at_ l i = l[i] := by simp [at_, h]
theorem at_mem {α : Type} [Inhabited α] {l : List α} {i : Nat} (h : i < l.length) : at_ l i ∈ l := by rw [at_eq h]; exact List.getElem_mem h
theorem mem_at {α : Type} [Inhabited α] {l : List α} {x : α} (h : x ∈ l) : ∃ i, i < l.length ∧ at_ l i = x := by
  obtain ⟨i, hi, rfl⟩ := List.mem_iff_getElem.1 h
  exact ⟨i, hi, at_eq hi⟩
theorem drop_at {α : Type} [Inhabited α] {l : List α} {i : Nat} (h : i < l.length) : l.drop i = at_ l i :: l.drop (i + 1) := by rw [at_eq h]; exact List.drop_eq_getElem_cons h
theorem take_at {α : Type} [Inhabited α] {l : List α} {i : Nat} (h : i < l.length) : l.take (i + 1) = l.take i ++ [at_ l i] := by rw [at_eq h, List.take_succ_eq_append_getElem h]

section
variable {α : Type} [Inhabited α] {key : α → Int} {l : List α} {id : Int} {i : Nat}

def Ris (key : α → Int) (l : List α) : Prop := l.Pairwise (fun x y => key x < key y)
theorem Ris.lt (h : Ris key l) {i j : Nat} (hij : i < j) (hj : j < l.length) : key (at_ l i) < key (at_ l j) := by
  rw [at_eq hj, at_eq (show i < l.length by omega)]
  exact List.pairwise_iff_getElem.1 h i j (by omega) hj hij
theorem Ris.inj (h : Ris key l) {i j : Nat} (hi : i < l.length) (hj : j < l.length) (e : key (at_ l i) = key (at_ l j)) : i = j := by
  rcases Nat.lt_trichotomy i j with h1 | h1 | h1
  · have := h.lt h1 hj; omega
  · exact h1
  · have := h.lt h1 hi; omega

/-- Where a key stands, or would. -/
structure Cut (key : α → Int) (l : List α) (id : Int) (i : Nat) : Prop where
  le : i ≤ l.length
  lo : ∀ j, j < i → key (at_ l j) < id
  hi : ∀ j, i ≤ j → j < l.length → id ≤ key (at_ l j)

def isAt (key : α → Int) (l : List α) (id : Int) (i : Nat) : Bool := decide (i < l.length ∧ key (at_ l i) = id)

theorem Cut.nil : Cut key [] id 0 := ⟨Nat.le_refl _, fun j hj => absurd hj (by omega), fun j _ hj => absurd hj (by simp)⟩
theorem Cut.find (h : Ris key l) (c : Cut key l id i) : l.find? (fun x => key x == id) = if isAt key l id i then some (at_ l i) else none := by
  by_cases hh : isAt key l id i = true
  · rw [if_pos hh]
    have h2 := of_decide_eq_true hh
    rw [List.find?_eq_some_iff_getElem]
    refine ⟨by simpa using h2.2, i, h2.1, (at_eq h2.1).symm, fun j hj => ?_⟩
    have := c.lo j hj
    rw [at_eq (show j < l.length by omega)] at this
    simp
    omega
  · rw [if_neg hh]
    rw [List.find?_eq_none]
    intro x hx
    obtain ⟨j, hj, rfl⟩ := mem_at hx
    simp only [beq_iff_eq]
    intro e
    have hij : i ≤ j := by
      rcases Nat.lt_or_ge j i with h1 | h1
      · have := c.lo j h1; omega
      · exact h1
    rcases Nat.lt_or_ge i j with h1 | h1
    · have h2 := c.hi i (Nat.le_refl _) (by omega)
      have h3 := h.lt h1 hj
      omega
    · obtain rfl : i = j := by omega
      exact hh (decide_eq_true ⟨hj, e⟩)
theorem Cut.isAt_iff (h : Ris key l) (c : Cut key l id i) : isAt key l id i = (l.find? (fun x => key x == id)).isSome := by
  rw [c.find h]
  cases isAt key l id i <;> simp
/-- Put in where it would stand, the list rises. -/
theorem Cut.put (h : Ris key l) (c : Cut key l id i) (hn : isAt key l id i = false) (x : α) (hx : key x = id) : Ris key (l.take i ++ x :: l.drop i) := by
  have hno : ∀ y ∈ l, key y ≠ id := fun y hy e => by
    have h1 := c.find h
    rw [hn] at h1
    have h1' : l.find? (fun x => key x == id) = none := h1
    have := List.find?_eq_none.1 h1' y hy
    simp at this
    exact this e
  refine List.pairwise_append.2 ⟨h.sublist (List.take_sublist _ _), List.pairwise_cons.2 ⟨fun y hy => ?_, h.sublist (List.drop_sublist _ _)⟩, fun y hy z hz => ?_⟩
  · obtain ⟨j, hj, rfl⟩ := List.mem_iff_getElem.1 hy
    rw [List.getElem_drop]
    have hj' : i + j < l.length := by rw [List.length_drop] at hj; omega
    have h1 := c.hi (i + j) (by omega) hj'
    rw [at_eq hj'] at h1
    have h2 := hno _ (List.getElem_mem hj')
    omega
  · have hyi : key y < id := by
      obtain ⟨j, hj, rfl⟩ := List.mem_iff_getElem.1 hy
      rw [List.getElem_take]
      rw [List.length_take] at hj
      have := c.lo j (by omega)
      rw [at_eq (show j < l.length by omega)] at this
      exact this
    rcases List.mem_cons.1 hz with rfl | hz
    · omega
    · obtain ⟨j, hj, rfl⟩ := List.mem_iff_getElem.1 hz
      rw [List.getElem_drop]
      have hj' : i + j < l.length := by rw [List.length_drop] at hj; omega
      have h1 := c.hi (i + j) (by omega) hj'
      rw [at_eq hj'] at h1
      omega
theorem Ris.find_mem (h : Ris key l) {x : α} (hx : x ∈ l) : l.find? (fun y => key y == key x) = some x := by
  obtain ⟨j, hj, rfl⟩ := mem_at hx
  rw [List.find?_eq_some_iff_getElem]
  refine ⟨by simp, j, hj, (at_eq hj).symm, fun k hk => ?_⟩
  have := h.lt hk hj
  rw [at_eq (show k < l.length by omega)] at this
  simp
  omega
end

/-! ### How many different ones -/
def addI (acc : List Int) (x : Int) : List Int := if acc.contains x then acc else acc ++ [x]
def dist (xs : List Int) : List Int := xs.foldl addI []
theorem addI_mem (acc : List Int) (x y : Int) : y ∈ addI acc x ↔ y ∈ acc ∨ y = x := by
  unfold addI
  split
  · rename_i h
    have : x ∈ acc := by simpa using h
    exact ⟨.inl, fun h => h.elim id (fun e => by rw [e]; exact this)⟩
  · simp
theorem addI_nodup {acc : List Int} (h : acc.Nodup) (x : Int) : (addI acc x).Nodup := by
  unfold addI
  split
  · exact h
  · rename_i hn
    have : x ∉ acc := by simpa using hn
    exact List.nodup_append.2 ⟨h, by simp, fun a ha b hb => by
      rw [List.mem_singleton] at hb
      rw [hb]
      exact fun e => this (by rw [← e]; exact ha)⟩
theorem fold_addI (xs : List Int) : ∀ acc : List Int, acc.Nodup → (xs.foldl addI acc).Nodup ∧ ∀ y, y ∈ xs.foldl addI acc ↔ y ∈ acc ∨ y ∈ xs := by
  induction xs with
  | nil => intro acc h; exact ⟨h, fun y => by simp⟩
  | cons x xs ih =>
    intro acc h
    obtain ⟨h1, h2⟩ := ih (addI acc x) (addI_nodup h x)
    refine ⟨h1, fun y => ?_⟩
    rw [List.foldl_cons, h2, addI_mem, List.mem_cons, or_assoc]
theorem dist_nodup (xs : List Int) : (dist xs).Nodup := (fold_addI xs [] List.nodup_nil).1
theorem dist_mem (xs : List Int) (y : Int) : y ∈ dist xs ↔ y ∈ xs := by rw [dist, (fold_addI xs [] List.nodup_nil).2]; simp
theorem dist_le_of {xs ys : List Int} (h : ∀ y, y ∈ xs → y ∈ ys) : (dist xs).length ≤ (dist ys).length :=
  (dist_nodup xs).length_le_of_subset (fun y hy => (dist_mem ys y).2 (h y ((dist_mem xs y).1 hy)))
theorem dist_eq_of {xs ys : List Int} (h : ∀ y, y ∈ xs ↔ y ∈ ys) : (dist xs).length = (dist ys).length :=
  Nat.le_antisymm (dist_le_of fun y hy => (h y).1 hy) (dist_le_of fun y hy => (h y).2 hy)
theorem dist_le_len (xs : List Int) : (dist xs).length ≤ xs.length := (dist_nodup xs).length_le_of_subset (fun y hy => (dist_mem xs y).1 hy)
theorem dist_snoc (xs : List Int) (x : Int) : (dist (xs ++ [x])).length = if x ∈ xs then (dist xs).length else (dist xs).length + 1 := by
  have e : dist (xs ++ [x]) = addI (dist xs) x := by simp [dist, List.foldl_append]
  rw [e]
  unfold addI
  by_cases h : x ∈ xs
  · rw [if_pos h, if_pos (by simpa using (dist_mem xs x).2 h)]
  · rw [if_neg h, if_neg (by simpa using fun h1 => h ((dist_mem xs x).1 h1))]
    simp
theorem dist_within {xs : List Int} {ys : List Int} (h : ∀ y, y ∈ xs → y ∈ ys) : (dist xs).length ≤ ys.length :=
  (dist_nodup xs).length_le_of_subset (fun y hy => h y ((dist_mem xs y).1 hy))
/-- As the document counts them. -/
theorem dist_filter {xs ys : List Int} (hy : ys.Nodup) (h : ∀ y, y ∈ xs → y ∈ ys) : (dist xs).length = (ys.filter fun y => decide (y ∈ xs)).length := by
  apply Nat.le_antisymm
  · exact (dist_nodup xs).length_le_of_subset (fun y hy => by
      have := (dist_mem xs y).1 hy
      simp [this, h y this])
  · exact (hy.sublist (List.filter_sublist)).length_le_of_subset (fun y hy => by
      have := List.mem_filter.1 hy
      exact (dist_mem xs y).2 (by simpa using this.2))

end Go.Proofs.Ytncgpojjibojlaa
