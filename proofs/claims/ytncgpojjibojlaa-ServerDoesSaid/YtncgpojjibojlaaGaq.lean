/- Lists of things of several cells, laid flat. No program in sight. -/
import Derived.Test.YtncgpojjibojlaaMemq
import Derived.Deep.MidRow
namespace Go.Proofs.Ytncgpojjibojlaa
open Go

theorem flat_len {α : Type} (f : α → List Value) (k : Nat) (hk : ∀ x, (f x).length = k) (d : List α) : (d.flatMap f).length = d.length * k := by
  induction d with
  | nil => simp
  | cons x d ih => rw [List.flatMap_cons, List.length_append, ih, hk, List.length_cons, Nat.add_mul]; omega
theorem flat_get {α : Type} (f : α → List Value) (k : Nat) (hk : ∀ x, (f x).length = k) (d : List α) (i j : Nat) (hj : j < k) : (d.flatMap f)[i * k + j]? = (d[i]?).bind fun x => (f x)[j]? := by
  induction d generalizing i with
  | nil => simp
  | cons x d ih =>
    cases i with
    | zero => rw [List.flatMap_cons, List.getElem?_append_left (by rw [hk]; omega)]; simp
    | succ i =>
      have e : (i + 1) * k + j = k + (i * k + j) := by rw [Nat.add_mul]; omega
      rw [List.flatMap_cons, e, List.getElem?_append_right (by rw [hk]; omega), hk, Nat.add_sub_cancel_left, ih]
      simp
/-- Cells written one behind the other. -/
def setL (xs : List Value) (o : Nat) : List Value → List Value
  | [] => xs
  | c :: cs => setL (xs.set o c) (o + 1) cs
theorem setL_len (cs : List Value) : ∀ (xs : List Value) (o : Nat), (setL xs o cs).length = xs.length := by
  induction cs with
  | nil => intro xs o; rfl
  | cons c cs ih => intro xs o; rw [setL, ih, List.length_set]
theorem setL_get (cs : List Value) : ∀ (xs : List Value) (o p : Nat), (setL xs o cs)[p]? = if o ≤ p ∧ p < o + cs.length ∧ p < xs.length then cs[p - o]? else xs[p]? := by
  induction cs with
  | nil => intro xs o p; rw [setL, if_neg (by simp; omega)]
  | cons c cs ih =>
    intro xs o p
    rw [setL, ih, List.length_set]
    by_cases h1 : o + 1 ≤ p ∧ p < o + 1 + cs.length ∧ p < xs.length
    · rw [if_pos h1, if_pos (by simp only [List.length_cons]; omega)]
      obtain ⟨q, hq⟩ : ∃ q, p - o = q + 1 := ⟨p - o - 1, by omega⟩
      have hq2 : p - (o + 1) = q := by omega
      rw [hq, hq2]
      simp
    · rw [if_neg h1, List.getElem?_set]
      by_cases h2 : o = p
      · subst h2
        by_cases h3 : o < xs.length
        · rw [if_pos rfl, if_pos h3, if_pos (by simp only [List.length_cons]; omega)]; simp
        · rw [if_pos rfl, if_neg h3, if_neg (by omega), List.getElem?_eq_none (by omega)]
      · rw [if_neg h2, if_neg (by simp only [List.length_cons]; omega)]
theorem flat_setL {α : Type} (f : α → List Value) (k : Nat) (hk : ∀ x, (f x).length = k) (h0 : 0 < k) (d : List α) (i : Nat) (x : α) (hi : i < d.length) : setL (d.flatMap f) (i * k) (f x) = (d.set i x).flatMap f := by
  apply List.ext_getElem?
  intro p
  rw [setL_get, hk, flat_len f k hk]
  have hp : p / k * k + p % k = p := by rw [Nat.mul_comm]; exact Nat.div_add_mod p k
  have hr := Nat.mod_lt p h0
  generalize p / k = q at *
  generalize p % k = r at *
  subst hp
  rw [flat_get f k hk _ _ _ hr, flat_get f k hk _ _ _ hr, List.getElem?_set]
  by_cases e : i = q
  · subst e
    have h1 : i * k + r < d.length * k := by
      have : (i + 1) * k ≤ d.length * k := Nat.mul_le_mul_right _ hi
      rw [Nat.add_mul] at this
      omega
    rw [if_pos (by omega), if_pos rfl, if_pos hi, Nat.add_sub_cancel_left]
    simp
  · rw [if_neg e, if_neg]
    intro ⟨h1, h2, _⟩
    rcases Nat.lt_or_ge i q with h | h
    · have : (i + 1) * k ≤ q * k := Nat.mul_le_mul_right _ h
      rw [Nat.add_mul] at this
      omega
    · have : (q + 1) * k ≤ i * k := Nat.mul_le_mul_right _ (by omega)
      rw [Nat.add_mul] at this
      omega
theorem flat_take {α : Type} (f : α → List Value) (k : Nat) (hk : ∀ x, (f x).length = k) (d : List α) (n : Nat) : (d.flatMap f).take (n * k) = (d.take n).flatMap f := by
  induction d generalizing n with
  | nil => simp
  | cons x d ih =>
    cases n with
    | zero => simp
    | succ n =>
      rw [List.take_succ_cons, List.flatMap_cons, List.flatMap_cons, List.take_append, hk, ← ih, Nat.add_mul]
      rw [List.take_of_length_le (by rw [hk]; omega)]
      congr 2
      omega
theorem flat_drop {α : Type} (f : α → List Value) (k : Nat) (hk : ∀ x, (f x).length = k) (d : List α) (n : Nat) : (d.flatMap f).drop (n * k) = (d.drop n).flatMap f := by
  induction d generalizing n with
  | nil => simp
  | cons x d ih =>
    cases n with
    | zero => simp
    | succ n =>
      rw [List.drop_succ_cons, List.flatMap_cons, List.drop_append, hk, ← ih, Nat.add_mul]
      rw [List.drop_of_length_le (by rw [hk]; omega), List.nil_append]
      congr 1
      omega
theorem flat_one {α : Type} (f : α → List Value) (x : α) : [x].flatMap f = f x := by simp

section
variable {w : World} {base size n : Nat} {e : TypeId} {xs : List Value} {g off cap : Nat}
theorem Own.setCells_ (cs : List Value) : ∀ (w : World) (xs : List Value) (j : Nat), Own w base e size (.slice (some ⟨g, off, none⟩) n cap) n xs → j + cs.length ≤ n * size →
    Own (w.setCells g (off + j) cs) base e size (.slice (some ⟨g, off, none⟩) n cap) n (setL xs j cs) := by
  induction cs with
  | nil => intro w xs j h _; exact h
  | cons c cs ih =>
    intro w xs j h hj
    simp only [List.length_cons] at hj
    exact ih _ _ (j + 1) (h.set_ j (by omega) c) (by omega)
theorem Fr.setCells_ (cs : List Value) : ∀ (w : World) (o : Nat), Fr (fun k => k = g) w (w.setCells g o cs) := by
  induction cs with
  | nil => intro w o; exact Fr.refl _ _
  | cons c cs ih =>
    intro w o
    exact ((Fr.refl (fun k => k = g) w).thenSet ⟨g, o, none⟩ c (.inl rfl)).trans (ih _ (o + 1)) (fun _ h => .inl h)
theorem Own.there_ (h : Own w base e size (.slice (some ⟨g, off, none⟩) n cap) n xs) (j m : Nat) (hj : j + m ≤ n * size) (hc : 0 < cap) : w.there g (off + j) m := by
  intro k hk
  have hx : xs[j + k]? = some (xs[j + k]'(by rw [h.1]; omega)) := List.getElem?_eq_getElem _
  rw [Nat.add_assoc]
  exact ⟨by rw [h.cells _ _ hx]; rfl, h.frozen hc _⟩
/-- A store of a struct into a row of the call's own. -/
theorem wpList_store_own {P : Program} {ops : Array Oper} {rest : List Oper} {op : Oper} {a : Act} {Q : Exit → Act → World → Prop} (hgd : op.guard = none) (ty : TypeId) (x y : Operand) (ho : op.op = .store ty x y)
    (hown : Own w base e size (.slice (some ⟨g, off, none⟩) n cap) n xs) (j : Nat) (cells : Array Value) (hx : a.eval x = .pointer (some ⟨g, off + j, none⟩)) (hy : a.eval y = .agg cells)
    (hj : j + cells.size ≤ n * size) (hc : 0 < cap) (hi : (P.info? ty).map (·.size) = some cells.size) (h1 : cells.all (·.oneCell') = true)
    (h : ∀ w', Own w' base e size (.slice (some ⟨g, off, none⟩) n cap) n (setL xs j cells.toList) → Fr (fun k => k = g) w w' → wpList P ops Q rest (a.put op.dst undef) w') : wpList P ops Q (op :: rest) a w :=
  wpList_store_mid hgd ty x y ho g (off + j) cells hx hy (hown.there_ j _ hj hc) hi h1 (h _ (hown.setCells_ cells.toList w xs j (by simpa using hj)) (Fr.setCells_ _ _ _))
end

end Go.Proofs.Ytncgpojjibojlaa

/- Lists that rise by a key: where a key stands, what is found, what is put in. No program in sight. -/
namespace Go.Proofs.Ytncgpojjibojlaa
open Go

def at_ {α : Type} [Inhabited α] (l : List α) (i : Nat) : α := l.getD i default
theorem at_get {α : Type} [Inhabited α] {l : List α} {i : Nat} (h : i < l.length) : l[i]? = some (at_ l i) := by simp [at_, h]
theorem at_eq {α : Type} [Inhabited α] {l : List α} {i : Nat} (h : i < l.length) : at_ l i = l[i] := by simp [at_, h]
theorem at_mem {α : Type} [Inhabited α] {l : List α} {i : Nat} (h : i < l.length) : at_ l i ∈ l := by rw [at_eq h]; exact List.getElem_mem h
theorem mem_at {α : Type} [Inhabited α] {l : List α} {x : α} (h : x ∈ l) : ∃ i, i < l.length ∧ at_ l i = x := by
  obtain ⟨i, hi, rfl⟩ := List.mem_iff_getElem.1 h
  exact ⟨i, hi, at_eq hi⟩
theorem drop_at {α : Type} [Inhabited α] {l : List α} {i : Nat} (h : i < l.length) : l.drop i = at_ l i :: l.drop (i + 1) := by rw [at_eq h]; exact List.drop_eq_getElem_cons h
theorem take_at {α : Type} [Inhabited α] {l : List α} {i : Nat} (h : i < l.length) : l.take (i + 1) = l.take i ++ [at_ l i] := by rw [at_eq h, List.take_succ_eq_append_getElem h]

section
variable {α : Type} [Inhabited α] {key : α → Int} {l : List α} {id : Int} {i : Nat}

def Ris (key : α → Int) (l : List α) : Prop := l.Pairwise (fun x y => key x < key y)
theorem Ris.lt (h : Ris key l) {i j : Nat} (hij : i < j) (hj : j < l.length) : key (at_ l i) < key (at_ l j) := by
  rw [at_eq hj, at_eq (show i < l.length by omega)]
  exact List.pairwise_iff_getElem.1 h i j (by omega) hj hij
theorem Ris.inj (h : Ris key l) {i j : Nat} (hi : i < l.length) (hj : j < l.length) (e : key (at_ l i) = key (at_ l j)) : i = j := by
  rcases Nat.lt_trichotomy i j with h1 | h1 | h1
  · have := h.lt h1 hj; omega
  · exact h1
  · have := h.lt h1 hi; omega

/-- Where a key stands, or would. -/
structure Cut (key : α → Int) (l : List α) (id : Int) (i : Nat) : Prop where
  le : i ≤ l.length
  lo : ∀ j, j < i → key (at_ l j) < id
  hi : ∀ j, i ≤ j → j < l.length → id ≤ key (at_ l j)

def isAt (key : α → Int) (l : List α) (id : Int) (i : Nat) : Bool := decide (i < l.length ∧ key (at_ l i) = id)

theorem Cut.nil : Cut key [] id 0 := ⟨Nat.le_refl _, fun j hj => absurd hj (by omega), fun j _ hj => absurd hj (by simp)⟩
theorem Cut.find (h : Ris key l) (c : Cut key l id i) : l.find? (fun x => key x == id) = if isAt key l id i then some (at_ l i) else none := by
  by_cases hh : isAt key l id i = true
  · rw [if_pos hh]
    have h2 := of_decide_eq_true hh
    rw [List.find?_eq_some_iff_getElem]
    refine ⟨by simpa using h2.2, i, h2.1, (at_eq h2.1).symm, fun j hj => ?_⟩
    have := c.lo j hj
    rw [at_eq (show j < l.length by omega)] at this
    simp
    omega
  · rw [if_neg hh]
    rw [List.find?_eq_none]
    intro x hx
    obtain ⟨j, hj, rfl⟩ := mem_at hx
    simp only [beq_iff_eq]
    intro e
    have hij : i ≤ j := by
      rcases Nat.lt_or_ge j i with h1 | h1
      · have := c.lo j h1; omega
      · exact h1
    rcases Nat.lt_or_ge i j with h1 | h1
    · have h2 := c.hi i (Nat.le_refl _) (by omega)
      have h3 := h.lt h1 hj
      omega
    · obtain rfl : i = j := by omega
      exact hh (decide_eq_true ⟨hj, e⟩)
theorem Cut.isAt_iff (h : Ris key l) (c : Cut key l id i) : isAt key l id i = (l.find? (fun x => key x == id)).isSome := by
  rw [c.find h]
  cases isAt key l id i <;> simp
/-- Put in where it would stand, the list rises. -/
theorem Cut.put (h : Ris key l) (c : Cut key l id i) (hn : isAt key l id i = false) (x : α) (hx : key x = id) : Ris key (l.take i ++ x :: l.drop i) := by
  have hno : ∀ y ∈ l, key y ≠ id := fun y hy e => by
    have h1 := c.find h
    rw [hn] at h1
    have h1' : l.find? (fun x => key x == id) = none := h1
    have := List.find?_eq_none.1 h1' y hy
    simp at this
    exact this e
  refine List.pairwise_append.2 ⟨h.sublist (List.take_sublist _ _), List.pairwise_cons.2 ⟨fun y hy => ?_, h.sublist (List.drop_sublist _ _)⟩, fun y hy z hz => ?_⟩
  · obtain ⟨j, hj, rfl⟩ := List.mem_iff_getElem.1 hy
    rw [List.getElem_drop]
    have hj' : i + j < l.length := by rw [List.length_drop] at hj; omega
    have h1 := c.hi (i + j) (by omega) hj'
    rw [at_eq hj'] at h1
    have h2 := hno _ (List.getElem_mem hj')
    omega
  · have hyi : key y < id := by
      obtain ⟨j, hj, rfl⟩ := List.mem_iff_getElem.1 hy
      rw [List.getElem_take]
      rw [List.length_take] at hj
      have := c.lo j (by omega)
      rw [at_eq (show j < l.length by omega)] at this
      exact this
    rcases List.mem_cons.1 hz with rfl | hz
    · omega
    · obtain ⟨j, hj, rfl⟩ := List.mem_iff_getElem.1 hz
      rw [List.getElem_drop]
      have hj' : i + j < l.length := by rw [List.length_drop] at hj; omega
      have h1 := c.hi (i + j) (by omega) hj'
      rw [at_eq hj'] at h1
      omega
theorem Ris.find_mem (h : Ris key l) {x : α} (hx : x ∈ l) : l.find? (fun y => key y == key x) = some x := by
  obtain ⟨j, hj, rfl⟩ := mem_at hx
  rw [List.find?_eq_some_iff_getElem]
  refine ⟨by simp, j, hj, (at_eq hj).symm, fun k hk => ?_⟩
  have := h.lt hk hj
  rw [at_eq (show k < l.length by omega)] at this
  simp
  omega
end

/-! ### How many different ones -/
def addI (acc : List Int) (x : Int) : List Int := if acc.contains x then acc else acc ++ [x]
def dist (xs : List Int) : List Int := xs.foldl addI []
theorem addI_mem (acc : List Int) (x y : Int) : y ∈ addI acc x ↔ y ∈ acc ∨ y = x := by
  unfold addI
  split
  · rename_i h
    have : x ∈ acc := by simpa using h
    exact ⟨.inl, fun h => h.elim id (fun e => by rw [e]; exact this)⟩
  · simp
theorem addI_nodup {acc : List Int} (h : acc.Nodup) (x : Int) : (addI acc x).Nodup := by
  unfold addI
  split
  · exact h
  · rename_i hn
    have : x ∉ acc := by simpa using hn
    exact List.nodup_append.2 ⟨h, by simp, fun a ha b hb => by
      rw [List.mem_singleton] at hb
      rw [hb]
      exact fun e => this (by rw [← e]; exact ha)⟩
theorem fold_addI (xs : List Int) : ∀ acc : List Int, acc.Nodup → (xs.foldl addI acc).Nodup ∧ ∀ y, y ∈ xs.foldl addI acc ↔ y ∈ acc ∨ y ∈ xs := by
  induction xs with
  | nil => intro acc h; exact ⟨h, fun y => by simp⟩
  | cons x xs ih =>
    intro acc h
    obtain ⟨h1, h2⟩ := ih (addI acc x) (addI_nodup h x)
    refine ⟨h1, fun y => ?_⟩
    rw [List.foldl_cons, h2, addI_mem, List.mem_cons, or_assoc]
theorem dist_nodup (xs : List Int) : (dist xs).Nodup := (fold_addI xs [] List.nodup_nil).1
theorem dist_mem (xs : List Int) (y : Int) : y ∈ dist xs ↔ y ∈ xs := by rw [dist, (fold_addI xs [] List.nodup_nil).2]; simp
theorem dist_le_of {xs ys : List Int} (h : ∀ y, y ∈ xs → y ∈ ys) : (dist xs).length ≤ (dist ys).length :=
  (dist_nodup xs).length_le_of_subset (fun y hy => (dist_mem ys y).2 (h y ((dist_mem xs y).1 hy)))
theorem dist_eq_of {xs ys : List Int} (h : ∀ y, y ∈ xs ↔ y ∈ ys) : (dist xs).length = (dist ys).length :=
  Nat.le_antisymm (dist_le_of fun y hy => (h y).1 hy) (dist_le_of fun y hy => (h y).2 hy)
theorem dist_le_len (xs : List Int) : (dist xs).length ≤ xs.length := (dist_nodup xs).length_le_of_subset (fun y hy => (dist_mem xs y).1 hy)
theorem dist_snoc (xs : List Int) (x : Int) : (dist (xs ++ [x])).length = if x ∈ xs then (dist xs).length else (dist xs).length + 1 := by
  have e : dist (xs ++ [x]) = addI (dist xs) x := by simp [dist, List.foldl_append]
  rw [e]
  unfold addI
  by_cases h : x ∈ xs
  · rw [if_pos h, if_pos (by simpa using (dist_mem xs x).2 h)]
  · rw [if_neg h, if_neg (by simpa using fun h1 => h ((dist_mem xs x).1 h1))]
    simp
theorem dist_within {xs : List Int} {ys : List Int} (h : ∀ y, y ∈ xs → y ∈ ys) : (dist xs).length ≤ ys.length :=
  (dist_nodup xs).length_le_of_subset (fun y hy => h y ((dist_mem xs y).1 hy))
/-- As the document counts them. -/
theorem dist_filter {xs ys : List Int} (hy : ys.Nodup) (h : ∀ y, y ∈ xs → y ∈ ys) : (dist xs).length = (ys.filter fun y => decide (y ∈ xs)).length := by
  apply Nat.le_antisymm
  · exact (dist_nodup xs).length_le_of_subset (fun y hy => by
      have := (dist_mem xs y).1 hy
      simp [this, h y this])
  · exact (hy.sublist (List.filter_sublist)).length_le_of_subset (fun y hy => by
      have := List.mem_filter.1 hy
      exact (dist_mem xs y).2 (by simpa using this.2))

end Go.Proofs.Ytncgpojjibojlaa

/- How the laws' kinds of things lie in memory. -/
namespace Go.Proofs.Ytncgpojjibojlaa
open Go Go.RowKit

def inC (z : Int) : List Value := [.int .i64 z]
theorem inC_len (z : Int) : (inC z).length = 1 := rfl
theorem inC_one (l : List Int) : ∀ u ∈ l.flatMap inC, u.oneCell' = true := by
  intro u hu
  obtain ⟨x, _, hx⟩ := List.mem_flatMap.1 hu
  simp [inC] at hx
  subst hx
  rfl
abbrev Nq := Int × Int × Int × Int
def noC (x : Nq) : List Value := [.int .i64 x.1, .int .i64 x.2.1, .int .i64 x.2.2.1, .int .i64 x.2.2.2]
theorem noC_len (x : Nq) : (noC x).length = 4 := rfl
theorem noC_one (l : List Nq) : ∀ u ∈ l.flatMap noC, u.oneCell' = true := by
  intro u hu
  obtain ⟨x, _, hx⟩ := List.mem_flatMap.1 hu
  simp [noC] at hx
  rcases hx with rfl | rfl | rfl | rfl <;> rfl
/-- An item of a script: the same four numbers. -/
abbrev itC (x : Nq) : List Value := noC x
theorem itC_len (x : Nq) : (itC x).length = 4 := rfl
abbrev Ld := Int × Int
def ldC (x : Ld) : List Value := [.int .i64 x.1, .int .i64 x.2]
theorem ldC_len (x : Ld) : (ldC x).length = 2 := rfl
theorem ldC_one (l : List Ld) : ∀ u ∈ l.flatMap ldC, u.oneCell' = true := by
  intro u hu
  obtain ⟨x, _, hx⟩ := List.mem_flatMap.1 hu
  simp [ldC] at hx
  rcases hx with rfl | rfl <;> rfl
abbrev Se := Int × Int × Int
def seC (x : Se) : List Value := [.int .i64 x.1, .int .i64 x.2.1, .int .i64 x.2.2]
def key_se (x : Se) : Int := x.1
theorem seC_len (x : Se) : (seC x).length = 3 := rfl
theorem seC_one (l : List Se) : ∀ u ∈ l.flatMap seC, u.oneCell' = true := by
  intro u hu
  obtain ⟨x, _, hx⟩ := List.mem_flatMap.1 hu
  simp [seC] at hx
  rcases hx with rfl | rfl | rfl <;> rfl

theorem below_one (w : World) (o : Obj) : Below w.heap.size w (w.alloc o) := (Below.refl _ _).alloc (Nat.le_refl _) o
/-- The cell of one number. -/
theorem rd_int {w : World} {b off cap n : Nat} {l : List Int} (h : Rd w 1 (.slice (some ⟨b, off, none⟩) n cap) n (l.flatMap inC)) (i : Nat) (hi : i < l.length) : w.cell? ⟨b, off + i, none⟩ = some (.int .i64 (at_ l i)) := by
  have hn : n = l.length := by have := h.1; rw [flat_len inC 1 inC_len] at this; omega
  obtain ⟨b', off', cap', hv, _, _, _, hc⟩ := h.form (by omega)
  injection hv with h1 h2 h3
  injection h1 with h1
  injection h1 with h4 h5
  subst h4 h5
  have f0 := flat_get inC 1 inC_len l i 0 (by omega)
  rw [at_get hi] at f0
  have := hc _ _ f0
  simpa using this
/-- The cells of one node. -/
theorem rd_no {w : World} {b off cap n : Nat} {l : List Nq} (h : Rd w 4 (.slice (some ⟨b, off, none⟩) n cap) n (l.flatMap noC)) (i : Nat) (hi : i < l.length) :
    w.cell? ⟨b, off + i * 4, none⟩ = some (.int .i64 (at_ l i).1) ∧ w.cell? ⟨b, off + i * 4 + 1, none⟩ = some (.int .i64 (at_ l i).2.1) ∧ w.cell? ⟨b, off + i * 4 + 1 + 1, none⟩ = some (.int .i64 (at_ l i).2.2.1) ∧ w.cell? ⟨b, off + i * 4 + 1 + 1 + 1, none⟩ = some (.int .i64 (at_ l i).2.2.2) := by
  have hn : n = l.length := by have := h.1; rw [flat_len noC 4 noC_len] at this; omega
  obtain ⟨b', off', cap', hv, _, _, _, hc⟩ := h.form (by omega)
  injection hv with h1 h2 h3
  injection h1 with h1
  injection h1 with h4 h5
  subst h4 h5
  have hg := at_get hi
  have f0 := flat_get noC 4 noC_len l i 0 (by omega)
  have f1 := flat_get noC 4 noC_len l i 1 (by omega)
  have f2 := flat_get noC 4 noC_len l i 2 (by omega)
  have f3 := flat_get noC 4 noC_len l i 3 (by omega)
  rw [hg] at f0 f1 f2 f3
  exact ⟨hc _ _ f0, hc _ _ f1, hc _ _ f2, hc _ _ f3⟩
/-- The cells of one load. -/
theorem rd_ld {w : World} {b off cap n : Nat} {l : List Ld} (h : Rd w 2 (.slice (some ⟨b, off, none⟩) n cap) n (l.flatMap ldC)) (i : Nat) (hi : i < l.length) :
    w.cell? ⟨b, off + i * 2, none⟩ = some (.int .i64 (at_ l i).1) ∧ w.cell? ⟨b, off + i * 2 + 1, none⟩ = some (.int .i64 (at_ l i).2) := by
  have hn : n = l.length := by have := h.1; rw [flat_len ldC 2 ldC_len] at this; omega
  obtain ⟨b', off', cap', hv, _, _, _, hc⟩ := h.form (by omega)
  injection hv with h1 h2 h3
  injection h1 with h1
  injection h1 with h4 h5
  subst h4 h5
  have hg := at_get hi
  have f0 := flat_get ldC 2 ldC_len l i 0 (by omega)
  have f1 := flat_get ldC 2 ldC_len l i 1 (by omega)
  rw [hg] at f0 f1
  exact ⟨hc _ _ f0, hc _ _ f1⟩
/-- The cells of one session. -/
theorem rd_se {w : World} {b off cap n : Nat} {l : List Se} (h : Rd w 3 (.slice (some ⟨b, off, none⟩) n cap) n (l.flatMap seC)) (i : Nat) (hi : i < l.length) :
    w.cell? ⟨b, off + i * 3, none⟩ = some (.int .i64 (at_ l i).1) ∧ w.cell? ⟨b, off + i * 3 + 1, none⟩ = some (.int .i64 (at_ l i).2.1) ∧ w.cell? ⟨b, off + i * 3 + 1 + 1, none⟩ = some (.int .i64 (at_ l i).2.2) := by
  have hn : n = l.length := by have := h.1; rw [flat_len seC 3 seC_len] at this; omega
  obtain ⟨b', off', cap', hv, _, _, _, hc⟩ := h.form (by omega)
  injection hv with h1 h2 h3
  injection h1 with h1
  injection h1 with h4 h5
  subst h4 h5
  have hg := at_get hi
  have f0 := flat_get seC 3 seC_len l i 0 (by omega)
  have f1 := flat_get seC 3 seC_len l i 1 (by omega)
  have f2 := flat_get seC 3 seC_len l i 2 (by omega)
  rw [hg] at f0 f1 f2
  exact ⟨hc _ _ f0, hc _ _ f1, hc _ _ f2⟩

theorem Rd.shape {w : World} {size : Nat} {v : Value} {n : Nat} {xs : List Value} (h : Rd w size v n xs) : ∃ A cap, v = .slice A n cap ∧ cap ≤ 9223372036854775807 ∧ n ≤ cap := by
  obtain ⟨_, A, cap, hv, h2, h3, _⟩ := h
  exact ⟨A, cap, hv, by unfold maxLen at h3; omega, h2⟩
/-- Where there is an element the slice has an address. -/
theorem Rd.addr {w : World} {size : Nat} {A : Option Addr} {cap n : Nat} {xs : List Value} (h : Rd w size (.slice A n cap) n xs) (hn : 0 < n) : ∃ b off, A = some ⟨b, off, none⟩ ∧ b < w.heap.size := by
  obtain ⟨b, off, cap', hv, _, _, hb, _⟩ := h.form hn
  injection hv with h1 h2 h3
  exact ⟨b, off, h1, hb⟩

end Go.Proofs.Ytncgpojjibojlaa

/- How replicas lie in memory. -/
namespace Go.Proofs.Ytncgpojjibojlaa
open Go Go.RowKit

/-- Chunk, version, sum, being installed, spoilt. -/
abbrev Re := Int × Int × Int × Bool × Bool
def reC (x : Re) : List Value := [.int .i64 x.1, .int .i64 x.2.1, .int .u32 x.2.2.1, .bool x.2.2.2.1, .bool x.2.2.2.2]
def reV (x : Re) : Value := .agg #[.int .i64 x.1, .int .i64 x.2.1, .int .u32 x.2.2.1, .bool x.2.2.2.1, .bool x.2.2.2.2]
theorem reC_len (x : Re) : (reC x).length = 5 := rfl
theorem reC_one (l : List Re) : ∀ u ∈ l.flatMap reC, u.oneCell' = true := by
  intro u hu
  obtain ⟨x, _, hx⟩ := List.mem_flatMap.1 hu
  simp [reC] at hx
  rcases hx with rfl | rfl | rfl | rfl | rfl <;> rfl
/-- The cells of one replica. -/
theorem rd_re {w : World} {b off cap n : Nat} {l : List Re} (h : Rd w 5 (.slice (some ⟨b, off, none⟩) n cap) n (l.flatMap reC)) (i : Nat) (hi : i < l.length) :
    w.cell? ⟨b, off + i * 5, none⟩ = some (.int .i64 (at_ l i).1) ∧ w.cell? ⟨b, off + i * 5 + 1, none⟩ = some (.int .i64 (at_ l i).2.1) ∧ w.cell? ⟨b, off + i * 5 + 1 + 1, none⟩ = some (.int .u32 (at_ l i).2.2.1) ∧
    w.cell? ⟨b, off + i * 5 + 1 + 1 + 1, none⟩ = some (.bool (at_ l i).2.2.2.1) ∧ w.cell? ⟨b, off + i * 5 + 1 + 1 + 1 + 1, none⟩ = some (.bool (at_ l i).2.2.2.2) := by
  have hn : n = l.length := by have := h.1; rw [flat_len reC 5 reC_len] at this; omega
  obtain ⟨b', off', cap', hv, _, _, _, hc⟩ := h.form (by omega)
  injection hv with h1 h2 h3
  injection h1 with h1
  injection h1 with h4 h5
  subst h4 h5
  have hg := at_get hi
  have f0 := flat_get reC 5 reC_len l i 0 (by omega)
  have f1 := flat_get reC 5 reC_len l i 1 (by omega)
  have f2 := flat_get reC 5 reC_len l i 2 (by omega)
  have f3 := flat_get reC 5 reC_len l i 3 (by omega)
  have f4 := flat_get reC 5 reC_len l i 4 (by omega)
  rw [hg] at f0 f1 f2 f3 f4
  exact ⟨hc _ _ f0, hc _ _ f1, hc _ _ f2, hc _ _ f3, hc _ _ f4⟩

end Go.Proofs.Ytncgpojjibojlaa

/- Replicas as plain lists: which may be, which one is a chunk's, one put in its place. No program in sight. -/
namespace Go.Proofs.Ytncgpojjibojlaa
open Go

def flI (t : Bool) : Int := if t then 1 else 0
def kR (x : Re) : Int := 2 * x.1 + flI x.2.2.2.1
def namedB (c v : Int) : Bool := decide ((1 ≤ c ∧ c ≤ 1048576) ∧ (1 ≤ v ∧ v ≤ 1073741824))
def okR (x : Re) : Bool := namedB x.1 x.2.1 && !(x.2.2.2.1 && x.2.2.2.2)
def okP (y x : Re) : Prop := kR y < kR x ∧ (y.1 = x.1 → y.2.1 < x.2.1)
instance (y x : Re) : Decidable (okP y x) := by unfold okP; exact inferInstance
def mayR (l : List Re) : Bool := decide (∀ k, k < l.length → okR (at_ l k) = true ∧ (0 < k → okP (at_ l (k - 1)) (at_ l k)))
def fairR (l : List Re) : List Re := if mayR l then l else []
theorem flI_le (t : Bool) : 0 ≤ flI t ∧ flI t ≤ 1 := by cases t <;> simp [flI]
theorem flI_inj {s t : Bool} (h : flI s = flI t) : s = t := by cases s <;> cases t <;> simp [flI] at h ⊢
theorem kR_le {x y : Re} (h : kR x ≤ kR y) : x.1 ≤ y.1 := by
  unfold kR at h
  have := flI_le x.2.2.2.1
  have := flI_le y.2.2.2.1
  omega
theorem kR_eq {x : Re} {c : Int} {t : Bool} : kR x = 2 * c + flI t ↔ x.1 = c ∧ x.2.2.2.1 = t := by
  unfold kR
  constructor
  · intro h
    have := flI_le x.2.2.2.1
    have := flI_le t
    exact ⟨by omega, flI_inj (by omega)⟩
  · rintro ⟨rfl, rfl⟩; rfl
theorem okP_trans {x y z : Re} (h1 : okP x y) (h2 : okP y z) : okP x z := by
  have a := kR_le (Int.le_of_lt h1.1)
  have b := kR_le (Int.le_of_lt h2.1)
  refine ⟨by have := h1.1; have := h2.1; omega, fun e => ?_⟩
  have := h1.2 (by omega)
  have := h2.2 (by omega)
  omega
theorem mayR_bad {l : List Re} {k : Nat} (hk : k < l.length) (hh : ¬ (okR (at_ l k) = true ∧ (0 < k → okP (at_ l (k - 1)) (at_ l k)))) : mayR l = false :=
  decide_eq_false (fun h => hh (h k hk))
theorem mayR_good {l : List Re} (h : ∀ k, k < l.length → okR (at_ l k) = true ∧ (0 < k → okP (at_ l (k - 1)) (at_ l k))) : mayR l = true := decide_eq_true h
theorem mayR_iff (l : List Re) : mayR l = true ↔ (∀ x ∈ l, okR x = true) ∧ l.Pairwise okP := by
  unfold mayR
  rw [decide_eq_true_eq]
  constructor
  · intro h
    refine ⟨fun x hx => ?_, ?_⟩
    · obtain ⟨i, hi, rfl⟩ := mem_at hx
      exact (h i hi).1
    · have step : ∀ d i, i + d + 1 < l.length → okP (at_ l i) (at_ l (i + d + 1)) := by
        intro d
        induction d with
        | zero => intro i hi; exact (h (i + 1) hi).2 (by omega)
        | succ d ih =>
          intro i hi
          have h1 := ih i (by omega)
          have h2 := (h (i + d + 1 + 1) (by omega)).2 (by omega)
          rw [show i + d + 1 + 1 - 1 = i + d + 1 by omega] at h2
          exact okP_trans h1 h2
      refine List.pairwise_iff_getElem.2 fun i j hi hj hij => ?_
      have := step (j - i - 1) i (by omega)
      rw [show i + (j - i - 1) + 1 = j by omega, at_eq hi, at_eq hj] at this
      exact this
  · rintro ⟨h1, h2⟩ k hk
    refine ⟨h1 _ (at_mem hk), fun h0 => ?_⟩
    rw [at_eq hk, at_eq (show k - 1 < l.length by omega)]
    exact List.pairwise_iff_getElem.1 h2 (k - 1) k (by omega) hk (by omega)
theorem mayR_ris {l : List Re} (h : mayR l = true) : Ris kR l := ((mayR_iff l).1 h).2.imp (fun h => h.1)
theorem mayR_nil : mayR [] = true := rfl
theorem fairR_may (l : List Re) : mayR (fairR l) = true := by
  unfold fairR
  split
  · assumption
  · exact mayR_nil
theorem fairR_ris (l : List Re) : Ris kR (fairR l) := mayR_ris (fairR_may l)
theorem fairR_len (l : List Re) : (fairR l).length ≤ l.length := by
  unfold fairR
  split
  · exact Nat.le_refl _
  · simp
theorem fairR_of {l : List Re} (h : mayR l = true) : fairR l = l := by rw [fairR, if_pos h]
theorem fairR_fair (l : List Re) : fairR (fairR l) = fairR l := fairR_of (fairR_may l)
/-- Some of those that may be, in their order, may be. -/
theorem mayR_sub {l m : List Re} (h : mayR l = true) (hs : m.Sublist l) : mayR m = true :=
  (mayR_iff m).2 ⟨fun x hx => ((mayR_iff l).1 h).1 x (hs.subset hx), ((mayR_iff l).1 h).2.sublist hs⟩

/-- A chunk's one, held or being installed. -/
def findR (l : List Re) (c : Int) (t : Bool) : Option Re := l.find? (fun x => kR x == 2 * c + flI t)
theorem findR_some {l : List Re} (h : Ris kR l) {c : Int} {t : Bool} {x : Re} : findR l c t = some x ↔ x ∈ l ∧ x.1 = c ∧ x.2.2.2.1 = t := by
  unfold findR
  constructor
  · intro h1
    exact ⟨List.mem_of_find?_eq_some h1, kR_eq.1 (by simpa using List.find?_some h1)⟩
  · rintro ⟨h1, h2⟩
    have := h.find_mem h1
    rw [kR_eq.2 h2] at this
    exact this
theorem findR_none {l : List Re} {c : Int} {t : Bool} : findR l c t = none ↔ ∀ x ∈ l, ¬ (x.1 = c ∧ x.2.2.2.1 = t) := by
  unfold findR
  rw [List.find?_eq_none]
  constructor
  · intro h x hx h1
    exact h x hx (by simpa using kR_eq.2 h1)
  · intro h x hx h1
    exact h x hx (kR_eq.1 (by simpa using h1))

/-- One in its place: instead of what is there, or between the others. -/
def putR (l : List Re) (x : Re) : List Re := l.filter (fun y => decide (kR y < kR x)) ++ x :: l.filter (fun y => decide (kR x < kR y))
def dropR (l : List Re) (k : Int) : List Re := l.filter (fun y => kR y != k)
theorem cut_take {l : List Re} {k : Int} {i : Nat} (c : Cut kR l k i) (h : Ris kR l) : l.filter (fun y => decide (kR y < k)) = l.take i := by
  have e : l.take i ++ l.drop i = l := List.take_append_drop i l
  conv => lhs; rw [← e]
  rw [List.filter_append]
  have h1 : (l.take i).filter (fun y => decide (kR y < k)) = l.take i := List.filter_eq_self.2 fun y hy => by
    obtain ⟨j, hj, rfl⟩ := List.mem_iff_getElem.1 hy
    rw [List.getElem_take]
    rw [List.length_take] at hj
    have := c.lo j (by omega)
    rw [at_eq (show j < l.length by omega)] at this
    simpa using this
  have h2 : (l.drop i).filter (fun y => decide (kR y < k)) = [] := List.filter_eq_nil_iff.2 fun y hy => by
    obtain ⟨j, hj, rfl⟩ := List.mem_iff_getElem.1 hy
    rw [List.getElem_drop]
    have hj' : i + j < l.length := by rw [List.length_drop] at hj; omega
    have := c.hi (i + j) (by omega) hj'
    rw [at_eq hj'] at this
    simp
    omega
  rw [h1, h2, List.append_nil]
theorem cut_drop_no {l : List Re} {k : Int} {i : Nat} (c : Cut kR l k i) (h : Ris kR l) (hn : isAt kR l k i = false) : l.filter (fun y => decide (k < kR y)) = l.drop i := by
  have e : l.take i ++ l.drop i = l := List.take_append_drop i l
  conv => lhs; rw [← e]
  rw [List.filter_append]
  have h1 : (l.take i).filter (fun y => decide (k < kR y)) = [] := List.filter_eq_nil_iff.2 fun y hy => by
    obtain ⟨j, hj, rfl⟩ := List.mem_iff_getElem.1 hy
    rw [List.getElem_take]
    rw [List.length_take] at hj
    have := c.lo j (by omega)
    rw [at_eq (show j < l.length by omega)] at this
    simp
    omega
  have h2 : (l.drop i).filter (fun y => decide (k < kR y)) = l.drop i := List.filter_eq_self.2 fun y hy => by
    obtain ⟨j, hj, rfl⟩ := List.mem_iff_getElem.1 hy
    rw [List.getElem_drop]
    have hj' : i + j < l.length := by rw [List.length_drop] at hj; omega
    have h3 := c.hi (i + j) (by omega) hj'
    have h4 : k ≠ kR (at_ l (i + j)) := fun e4 => by
      rcases Nat.eq_zero_or_pos j with h5 | h5
      · subst h5
        rw [Nat.add_zero] at e4 hj'
        have h9 : isAt kR l k i = true := decide_eq_true ⟨hj', e4.symm⟩
        rw [hn] at h9
        cases h9
      · have h6 := c.hi i (Nat.le_refl _) (by omega)
        have h7 := h.lt (i := i) (j := i + j) (by omega) hj'
        omega
    rw [at_eq hj'] at h3 h4
    simp
    omega
  rw [h1, h2, List.nil_append]
theorem cut_drop_at {l : List Re} {k : Int} {i : Nat} (c : Cut kR l k i) (h : Ris kR l) (hn : isAt kR l k i = true) : l.filter (fun y => decide (k < kR y)) = l.drop (i + 1) := by
  obtain ⟨hi, hk⟩ := of_decide_eq_true hn
  have e : l.take (i + 1) ++ l.drop (i + 1) = l := List.take_append_drop (i + 1) l
  conv => lhs; rw [← e]
  rw [List.filter_append]
  have h1 : (l.take (i + 1)).filter (fun y => decide (k < kR y)) = [] := List.filter_eq_nil_iff.2 fun y hy => by
    obtain ⟨j, hj, rfl⟩ := List.mem_iff_getElem.1 hy
    rw [List.getElem_take]
    rw [List.length_take] at hj
    have hjl : j < l.length := by omega
    rcases Nat.lt_or_ge j i with h2 | h2
    · have := c.lo j h2
      rw [at_eq hjl] at this
      simp
      omega
    · obtain rfl : j = i := by omega
      rw [at_eq hjl] at hk
      simp
      omega
  have h2 : (l.drop (i + 1)).filter (fun y => decide (k < kR y)) = l.drop (i + 1) := List.filter_eq_self.2 fun y hy => by
    obtain ⟨j, hj, rfl⟩ := List.mem_iff_getElem.1 hy
    rw [List.getElem_drop]
    have hj' : i + 1 + j < l.length := by rw [List.length_drop] at hj; omega
    have h7 := h.lt (i := i) (j := i + 1 + j) (by omega) hj'
    rw [hk, at_eq hj'] at h7
    simpa using h7
  rw [h1, h2, List.nil_append]
theorem put_new {l : List Re} {x : Re} {i : Nat} (c : Cut kR l (kR x) i) (h : Ris kR l) (hn : isAt kR l (kR x) i = false) : l.take i ++ x :: l.drop i = putR l x := by
  unfold putR
  rw [cut_take c h, cut_drop_no c h hn]
theorem put_there {l : List Re} {x : Re} {i : Nat} (c : Cut kR l (kR x) i) (h : Ris kR l) (hn : isAt kR l (kR x) i = true) : l.set i x = putR l x := by
  unfold putR
  have hi := (of_decide_eq_true hn).1
  rw [cut_take c h, cut_drop_at c h hn]
  rw [List.set_eq_take_append_cons_drop, if_pos hi]
theorem drop_at_cut {l : List Re} {k : Int} {i : Nat} (c : Cut kR l k i) (h : Ris kR l) (hn : isAt kR l k i = true) : l.take i ++ l.drop (i + 1) = dropR l k := by
  obtain ⟨hi, hk⟩ := of_decide_eq_true hn
  rw [← cut_take c h, ← cut_drop_at c h hn]
  unfold dropR
  have e : l.take i ++ at_ l i :: l.drop (i + 1) = l := by rw [← drop_at hi]; exact List.take_append_drop i l
  rw [cut_take c h, cut_drop_at c h hn]
  conv => rhs; rw [← e]
  rw [List.filter_append, List.filter_cons]
  rw [← cut_take c h, ← cut_drop_at c h hn, List.filter_filter, List.filter_filter]
  have hz : (kR (at_ l i) != k) = false := by simp [hk]
  rw [hz]
  simp only [Bool.false_eq_true, if_false]
  congr 1
  · refine List.filter_congr fun y _ => ?_
    rw [Bool.eq_iff_iff]
    simp
    omega
  · refine List.filter_congr fun y _ => ?_
    rw [Bool.eq_iff_iff]
    simp
    omega
theorem dropR_sub (l : List Re) (k : Int) : (dropR l k).Sublist l := List.filter_sublist
theorem dropR_ris {l : List Re} (h : Ris kR l) (k : Int) : Ris kR (dropR l k) := h.sublist (dropR_sub l k)
theorem putR_mem {l : List Re} {x y : Re} : y ∈ putR l x ↔ y = x ∨ (y ∈ l ∧ kR y ≠ kR x) := by
  unfold putR
  rw [List.mem_append, List.mem_cons, List.mem_filter, List.mem_filter, decide_eq_true_eq, decide_eq_true_eq]
  constructor
  · rintro (⟨h1, h2⟩ | rfl | ⟨h1, h2⟩)
    · exact .inr ⟨h1, by omega⟩
    · exact .inl rfl
    · exact .inr ⟨h1, by omega⟩
  · rintro (rfl | ⟨h1, h2⟩)
    · exact .inr (.inl rfl)
    · rcases Int.lt_or_lt_of_ne h2 with h3 | h3
      · exact .inl ⟨h1, h3⟩
      · exact .inr (.inr ⟨h1, h3⟩)
theorem putR_ris {l : List Re} (h : Ris kR l) (x : Re) : Ris kR (putR l x) := by
  refine List.pairwise_append.2 ⟨h.sublist List.filter_sublist, List.pairwise_cons.2 ⟨fun y hy => by simpa using (List.mem_filter.1 hy).2, h.sublist List.filter_sublist⟩, fun y hy z hz => ?_⟩
  have h1 : kR y < kR x := by simpa using (List.mem_filter.1 hy).2
  rcases List.mem_cons.1 hz with rfl | hz
  · exact h1
  · have h2 : kR x < kR z := by simpa using (List.mem_filter.1 hz).2
    omega
theorem filter3_len (l : List Re) (k : Int) : (l.filter (fun y => decide (kR y < k))).length + (l.filter (fun y => decide (k < kR y))).length = (dropR l k).length := by
  unfold dropR
  induction l with
  | nil => rfl
  | cons y l ih =>
    simp only [List.filter_cons]
    rcases Int.lt_trichotomy (kR y) k with h | h | h
    · have h1 : ¬ k < kR y := by omega
      have h2 : (kR y != k) = true := by simp; omega
      simp only [h, h1, h2, decide_true, decide_false, if_true, Bool.false_eq_true, if_false, List.length_cons]
      omega
    · subst h
      simp
      omega
    · have h1 : ¬ kR y < k := by omega
      have h2 : (kR y != k) = true := by simp; omega
      simp only [h, h1, h2, decide_true, decide_false, if_true, Bool.false_eq_true, if_false, List.length_cons]
      omega
theorem putR_len (l : List Re) (x : Re) : (putR l x).length = (dropR l (kR x)).length + 1 := by
  unfold putR
  rw [List.length_append, List.length_cons, ← filter3_len]
  omega
theorem dropR_len_le (l : List Re) (k : Int) : (dropR l k).length ≤ l.length := List.length_filter_le _ _

end Go.Proofs.Ytncgpojjibojlaa
