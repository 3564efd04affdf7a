/- Lists of things of several cells, laid flat. No program in sight. -/
import Derived.Test.YtncgpojjibojlaaMem
import Derived.Deep.MidRow
namespace Go.Proofs.Ytncgpojjibojlaa
open Go

theorem flat_len {α : Type} (f : α → List Value) (k : Nat) (hk : ∀ x, (f x).length = k) (d : List α) : (d.flatMap f).length = d.length * k := by
  induction d with
  | nil => simp
  | cons x d ih => rw [List.flatMap_cons, List.length_append, ih, hk, List.length_cons, Nat.add_mul]; omega
theorem flat_get {α : Type} (f : α → List Value) (k : Nat) (hk : ∀ x, (f x).length = k) (d : List α) (i j : Nat) (hj : j < k) : (d.flatMap f)[i * k + j]? = (d[i]?).bind fun x => (f x)[j]? := by
  induction d generalizing i with
  | nil => simp
  | cons x d ih =>
    cases i with
    | zero => rw [List.flatMap_cons, List.getElem?_append_left (by rw [hk]; omega)]; simp
    | succ i =>
      have e : (i + 1) * k + j = k + (i * k + j) := by rw [Nat.add_mul]; omega
      rw [List.flatMap_cons, e, List.getElem?_append_right (by rw [hk]; omega), hk, Nat.add_sub_cancel_left, ih]
      simp
/-- Cells written one behind the other. -/
def setL (xs : List Value) (o : Nat) : List Value → List Value
  | [] => xs
  | c :: cs => setL (xs.set o c) (o + 1) cs
theorem setL_len (cs : List Value) : ∀ (xs : List Value) (o : Nat), (setL xs o cs).length = xs.length := by
  induction cs with
  | nil => intro xs o; rfl
  | cons c cs ih => intro xs o; rw [setL, ih, List.length_set]
theorem setL_get (cs : List Value) : ∀ (xs : List Value) (o p : Nat), (setL xs o cs)[p]? = if o ≤ p ∧ p < o + cs.length ∧ p < xs.length then cs[p - o]? else xs[p]? := by
  induction cs with
  | nil => intro xs o p; rw [setL, if_neg (by simp; omega)]
  | cons c cs ih =>
    intro xs o p
    rw [setL, ih, List.length_set]
    by_cases h1 : o + 1 ≤ p ∧ p < o + 1 + cs.length ∧ p < xs.length
    · rw [if_pos h1, if_pos (by simp only [List.length_cons]; omega)]
      obtain ⟨q, hq⟩ : ∃ q, p - o = q + 1 := ⟨p - o - 1, by omega⟩
      have hq2 : p - (o + 1) = q := by omega
      rw [hq, hq2]
      simp
    · rw [if_neg h1, List.getElem?_set]
      by_cases h2 : o = p
      · subst h2
        by_cases h3 : o < xs.length
        · rw [if_pos rfl, if_pos h3, if_pos (by simp only [List.length_cons]; omega)]; simp
        · rw [if_pos rfl, if_neg h3, if_neg (by omega), List.getElem?_eq_none (by omega)]
      · rw [if_neg h2, if_neg (by simp only [List.length_cons]; omega)]
theorem flat_setL {α : Type} (f : α → List Value) (k : Nat) (hk : ∀ x, (f x).length = k) (h0 : 0 < k) (d : List α) (i : Nat) (x : α) (hi : i < d.length) : setL (d.flatMap f) (i * k) (f x) = (d.set i x).flatMap f := by
  apply List.ext_getElem?
  intro p
  rw [setL_get, hk, flat_len f k hk]
  have hp : p / k * k + p % k = p := by rw [Nat.mul_comm]; exact Nat.div_add_mod p k
  have hr := Nat.mod_lt p h0
  generalize p / k = q at *
  generalize p % k = r at *
  subst hp
  rw [flat_get f k hk _ _ _ hr, flat_get f k hk _ _ _ hr, List.getElem?_set]
  by_cases e : i = q
  · subst e
    have h1 : i * k + r < d.length * k := by
      have : (i + 1) * k ≤ d.length * k := Nat.mul_le_mul_right _ hi
      rw [Nat.add_mul] at this
      omega
    rw [if_pos (by omega), if_pos rfl, if_pos hi, Nat.add_sub_cancel_left]
    simp
  · rw [if_neg e, if_neg]
    intro ⟨h1, h2, _⟩
    rcases Nat.lt_or_ge i q with h | h
    · have : (i + 1) * k ≤ q * k := Nat.mul_le_mul_right _ h
      rw [Nat.add_mul] at this
      omega
    · have : (q + 1) * k ≤ i * k := Nat.mul_le_mul_right _ (by omega)
      rw [Nat.add_mul] at this
      omega
theorem flat_take {α : Type} (f : α → List Value) (k : Nat) (hk : ∀ x, (f x).length = k) (d : List α) (n : Nat) : (d.flatMap f).take (n * k) = (d.take n).flatMap f := by
  induction d generalizing n with
  | nil => simp
  | cons x d ih =>
    cases n with
    | zero => simp
    | succ n =>
      rw [List.take_succ_cons, List.flatMap_cons, List.flatMap_cons, List.take_append, hk, ← ih, Nat.add_mul]
      rw [List.take_of_length_le (by rw [hk]; omega)]
      congr 2
      omega
theorem flat_drop {α : Type} (f : α → List Value) (k : Nat) (hk : ∀ x, (f x).length = k) (d : List α) (n : Nat) : (d.flatMap f).drop (n * k) = (d.drop n).flatMap f := by
  induction d generalizing n with
  | nil => simp
  | cons x d ih =>
    cases n with
    | zero => simp
    | succ n =>
      rw [List.drop_succ_cons, List.flatMap_cons, List.drop_append, hk, ← ih, Nat.add_mul]
      rw [List.drop_of_length_le (by rw [hk]; omega), List.nil_append]
      congr 1
      omega
theorem flat_one {α : Type} (f : α → List Value) (x : α) : [x].flatMap f = f x := by simp

section
variable {w : World} {base size n : Nat} {e : TypeId} {xs : List Value} {g off cap : Nat}
theorem Own.setCells_ (cs : List Value) : ∀ (w : World) (xs : List Value) (j : Nat), Own w base e size (.slice (some ⟨g, off, none⟩) n cap) n xs → j + cs.length ≤ n * size →
    Own (w.setCells g (off + j) cs) base e size (.slice (some ⟨g, off, none⟩) n cap) n (setL xs j cs) := by
  induction cs with
  | nil => intro w xs j h _; exact h
  | cons c cs ih =>
    intro w xs j h hj
    simp only [List.length_cons] at hj
    exact ih _ _ (j + 1) (h.set_ j (by omega) c) (by omega)
theorem Fr.setCells_ (cs : List Value) : ∀ (w : World) (o : Nat), Fr (fun k => k = g) w (w.setCells g o cs) := by
  induction cs with
  | nil => intro w o; exact Fr.refl _ _
  | cons c cs ih =>
    intro w o
    exact ((Fr.refl (fun k => k = g) w).thenSet ⟨g, o, none⟩ c (.inl rfl)).trans (ih _ (o + 1)) (fun _ h => .inl h)
theorem Own.there_ (h : Own w base e size (.slice (some ⟨g, off, none⟩) n cap) n xs) (j m : Nat) (hj : j + m ≤ n * size) (hc : 0 < cap) : w.there g (off + j) m := by
  intro k hk
  have hx : xs[j + k]? = some (xs[j + k]'(by rw [h.1]; omega)) := List.getElem?_eq_getElem _
  rw [Nat.add_assoc]
  exact ⟨by rw [h.cells _ _ hx]; rfl, h.frozen hc _⟩
/-- A store of a struct into a row of the call's own. -/
theorem wpList_store_own {P : Program} {ops : Array Oper} {rest : List Oper} {op : Oper} {a : Act} {Q : Exit → Act → World → Prop} (hgd : op.guard = none) (ty : TypeId) (x y : Operand) (ho : op.op = .store ty x y)
    (hown : Own w base e size (.slice (some ⟨g, off, none⟩) n cap) n xs) (j : Nat) (cells : Array Value) (hx : a.eval x = .pointer (some ⟨g, off + j, none⟩)) (hy : a.eval y = .agg cells)
    (hj : j + cells.size ≤ n * size) (hc : 0 < cap) (hi : (P.info? ty).map (·.size) = some cells.size) (h1 : cells.all (·.oneCell') = true)
    (h : ∀ w', Own w' base e size (.slice (some ⟨g, off, none⟩) n cap) n (setL xs j cells.toList) → Fr (fun k => k = g) w w' → wpList P ops Q rest (a.put op.dst undef) w') : wpList P ops Q (op :: rest) a w :=
  wpList_store_mid hgd ty x y ho g (off + j) cells hx hy (hown.there_ j _ hj hc) hi h1 (h _ (hown.setCells_ cells.toList w xs j (by simpa using hj)) (Fr.setCells_ _ _ _))
end

end Go.Proofs.Ytncgpojjibojlaa
