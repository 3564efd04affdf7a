/- Sessions as plain lists. No program in sight. -/
import Derived.Test.YthmifcbhbcjeiaaKinds
namespace Go.Proofs.Ythmifcbhbcjeiaa
open Go

def maySP (x : Se) : Prop := (1 ≤ x.1 ∧ x.1 ≤ 1048576) ∧ (1 ≤ x.2.1 ∧ x.2.1 ≤ 1099511627776)
instance (x : Se) : Decidable (maySP x) := by unfold maySP; exact inferInstance
def mayS (x : Se) : Bool := decide (maySP x)
def MaySL (l : List Se) : Prop := l.Pairwise (fun x y => x.1 < y.1) ∧ (∀ x ∈ l, maySP x) ∧ l.length ≤ 16
instance (l : List Se) : Decidable (MaySL l) := by unfold MaySL; exact inferInstance
def maySL (l : List Se) : Bool := decide (MaySL l)
theorem MaySL.ris {l : List Se} (h : MaySL l) : Ris key_se l := h.1
def sesS (l : List Se) (c : Int) : Se := (l.find? (fun x => key_se x == c)).getD (0, 0, 0)
/-- What Look answers. -/
def lookS (l : List Se) (c q : Int) : Int × Bool × Int :=
  if maySL l = false ∨ mayS (c, q, 0) = false then (0, false, 1)
  else if q < (sesS l c).2.1 then (0, false, 9)
  else if q = (sesS l c).2.1 then ((sesS l c).2.2, true, 0)
  else if q > (sesS l c).2.1 + 1 then (0, false, 10)
  else (0, false, 0)

theorem maySL_bad {l : List Se} {k : Nat} (hk : k < l.length) (hh : ¬ (maySP (at_ l k) ∧ (0 < k → (at_ l (k - 1)).1 < (at_ l k).1) ∧ 0 < (at_ l k).1)) : maySL l = false := by
  refine decide_eq_false fun h => hh ⟨h.2.1 _ (at_mem hk), fun h0 => h.ris.lt (by omega) hk, ?_⟩
  have := (h.2.1 _ (at_mem hk)).1.1
  omega
theorem maySL_good {l : List Se} (h : ∀ k, k < l.length → maySP (at_ l k) ∧ (0 < k → (at_ l (k - 1)).1 < (at_ l k).1)) : maySL l = decide (l.length ≤ 16) := by
  unfold maySL
  have h1 : l.Pairwise (fun x y => x.1 < y.1) := by
    have step : ∀ d i, i + d + 1 < l.length → (at_ l i).1 < (at_ l (i + d + 1)).1 := by
      intro d
      induction d with
      | zero => intro i hi; exact (h (i + 1) hi).2 (by omega)
      | succ d ih =>
        intro i hi
        have h1 := ih i (by omega)
        have h2 := (h (i + d + 1 + 1) (by omega)).2 (by omega)
        rw [show i + d + 1 + 1 - 1 = i + d + 1 by omega] at h2
        rw [show i + (d + 1) + 1 = i + d + 1 + 1 by omega]
        omega
    refine List.pairwise_iff_getElem.2 fun i j hi hj hij => ?_
    have := step (j - i - 1) i (by omega)
    rw [show i + (j - i - 1) + 1 = j by omega, at_eq hi, at_eq hj] at this
    exact this
  have h2 : ∀ x ∈ l, maySP x := fun x hx => by
    obtain ⟨i, hi, rfl⟩ := mem_at hx
    exact (h i hi).1
  exact decide_eq_decide.2 ⟨fun h => h.2.2, fun h => ⟨h1, h2, h⟩⟩

/-- Where a client has a session, or would: what Put leaves. -/
def putAt (l : List Se) (i : Nat) (x : Se) : List Se := if isAt key_se l x.1 i then l.set i x else l.take i ++ x :: l.drop i
/-- What Put answers, i the client's place. -/
def putSE (l : List Se) (c q : Int) : Int :=
  if (lookS l c q).2.2 ≠ 0 then (lookS l c q).2.2
  else if (lookS l c q).2.1 = true then 6
  else if (l.find? (fun x => key_se x == c)).isNone ∧ 16 ≤ l.length then 7
  else 0
def putS (l : List Se) (x : Se) : List Se := (l.filter fun y => decide (y.1 < x.1)) ++ x :: (l.filter fun y => decide (x.1 < y.1))

theorem Ris.take_filter {α : Type} [Inhabited α] {key : α → Int} {l : List α} {id : Int} {i : Nat} (c : Cut key l id i) : l.filter (fun y => decide (key y < id)) = l.take i := by
  have hs : l = l.take i ++ l.drop i := (List.take_append_drop i l).symm
  conv => lhs; rw [hs]
  rw [List.filter_append]
  have h1 : (l.take i).filter (fun y => decide (key y < id)) = l.take i := List.filter_eq_self.2 fun y hy => by
    obtain ⟨j, hj, rfl⟩ := List.mem_iff_getElem.1 hy
    rw [List.getElem_take]
    rw [List.length_take] at hj
    have := c.lo j (by omega)
    rw [at_eq (show j < l.length by omega)] at this
    simpa using this
  have h2 : (l.drop i).filter (fun y => decide (key y < id)) = [] := List.filter_eq_nil_iff.2 fun y hy => by
    obtain ⟨j, hj, rfl⟩ := List.mem_iff_getElem.1 hy
    rw [List.getElem_drop]
    have hj' : i + j < l.length := by rw [List.length_drop] at hj; omega
    have := c.hi (i + j) (by omega) hj'
    rw [at_eq hj'] at this
    simp
    omega
  rw [h1, h2, List.append_nil]
theorem Ris.drop_filter {α : Type} [Inhabited α] {key : α → Int} {l : List α} {id : Int} {i : Nat} (h : Ris key l) (c : Cut key l id i) : l.filter (fun y => decide (id < key y)) = if isAt key l id i then l.drop (i + 1) else l.drop i := by
  have hs : l = l.take i ++ l.drop i := (List.take_append_drop i l).symm
  conv => lhs; rw [hs]
  rw [List.filter_append]
  have h1 : (l.take i).filter (fun y => decide (id < key y)) = [] := List.filter_eq_nil_iff.2 fun y hy => by
    obtain ⟨j, hj, rfl⟩ := List.mem_iff_getElem.1 hy
    rw [List.getElem_take]
    rw [List.length_take] at hj
    have := c.lo j (by omega)
    rw [at_eq (show j < l.length by omega)] at this
    simp
    omega
  rw [h1, List.nil_append]
  have hup : ∀ k, (∀ j, k ≤ j → j < l.length → id < key (at_ l j)) → (l.drop k).filter (fun y => decide (id < key y)) = l.drop k := fun k hk => List.filter_eq_self.2 fun y hy => by
    obtain ⟨j, hj, rfl⟩ := List.mem_iff_getElem.1 hy
    rw [List.getElem_drop]
    have hj' : k + j < l.length := by rw [List.length_drop] at hj; omega
    have := hk (k + j) (by omega) hj'
    rw [at_eq hj'] at this
    simpa using this
  by_cases ha : isAt key l id i = true
  · rw [if_pos ha]
    obtain ⟨hi, he⟩ := of_decide_eq_true ha
    rw [drop_at hi, List.filter_cons, if_neg (by simp; omega)]
    refine hup (i + 1) fun j hj hjl => ?_
    have := h.lt (show i < j by omega) hjl
    omega
  · rw [if_neg ha]
    refine hup i fun j hj hjl => ?_
    have h2 := c.hi j hj hjl
    rcases Nat.lt_or_ge i j with hij | hij
    · have h3 := h.lt hij hjl
      have h4 := c.hi i (Nat.le_refl _) (by omega)
      omega
    · obtain rfl : i = j := by omega
      have : ¬ key (at_ l i) = id := fun e => ha (decide_eq_true ⟨hjl, e⟩)
      omega
theorem putAt_eq {l : List Se} (h : Ris key_se l) {i : Nat} {x : Se} (c : Cut key_se l x.1 i) : putAt l i x = putS l x := by
  have e1 := Ris.take_filter c
  have e2 := h.drop_filter c
  unfold putS putAt
  have e1' : l.filter (fun y => decide (y.1 < x.1)) = l.take i := e1
  have e2' : l.filter (fun y => decide (x.1 < y.1)) = if isAt key_se l x.1 i then l.drop (i + 1) else l.drop i := e2
  rw [e1', e2']
  by_cases ha : isAt key_se l x.1 i = true
  · rw [if_pos ha, if_pos ha, List.set_eq_take_append_cons_drop, if_pos (of_decide_eq_true ha).1]
  · rw [if_neg ha, if_neg ha]

end Go.Proofs.Ythmifcbhbcjeiaa
