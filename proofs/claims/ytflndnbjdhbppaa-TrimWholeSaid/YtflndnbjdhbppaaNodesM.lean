/- Nodes as plain lists: which may be, the one with an ID, racks, states. No program in sight. -/
import Derived.Test.YtflndnbjdhbppaaKinds
namespace Go.Proofs.Ytflndnbjdhbppaa
open Go

def noI (x : Nq) : Int := x.1
def mayP (x : Nq) : Prop := (1 ≤ x.1 ∧ x.1 ≤ 16) ∧ (1 ≤ x.2.1 ∧ x.2.1 ≤ 8) ∧ (1 ≤ x.2.2.1 ∧ x.2.2.1 ≤ 16) ∧ (0 ≤ x.2.2.2 ∧ x.2.2.2 ≤ 2)
instance (x : Nq) : Decidable (mayP x) := by unfold mayP; exact inferInstance
def mayN (x : Nq) : Bool := decide (mayP x)
def mayFrom (last : Int) : List Nq → Bool
  | [] => true
  | x :: l => mayN x && decide (last < x.1) && mayFrom x.1 l
def mayL (l : List Nq) : Bool := mayFrom 0 l
def fairL (l : List Nq) : List Nq := if mayL l then l else []
def findL (l : List Nq) (id : Int) : Option Nq := (fairL l).find? (fun x => noI x == id)

theorem mayFrom_iff (l : List Nq) : ∀ last, mayFrom last l = true ↔ Ris noI l ∧ ∀ x ∈ l, last < x.1 ∧ mayP x := by
  induction l with
  | nil => intro last; simp [mayFrom, Ris]
  | cons x l ih =>
    intro last
    simp only [mayFrom, Bool.and_eq_true, decide_eq_true_eq, ih, mayN, Ris, List.pairwise_cons, List.mem_cons, forall_eq_or_imp, noI]
    constructor
    · rintro ⟨⟨h1, h2⟩, h3, h4⟩
      exact ⟨⟨fun y hy => (h4 y hy).1, h3⟩, ⟨h2, h1⟩, fun y hy => ⟨by have := (h4 y hy).1; omega, (h4 y hy).2⟩⟩
    · rintro ⟨⟨h1, h2⟩, ⟨h3, h4⟩, h5⟩
      exact ⟨⟨h4, h3⟩, h2, fun y hy => ⟨h1 y hy, (h5 y hy).2⟩⟩
theorem mayL_iff (l : List Nq) : mayL l = true ↔ Ris noI l ∧ ∀ x ∈ l, mayP x := by
  rw [mayL, mayFrom_iff]
  refine ⟨fun h => ⟨h.1, fun x hx => (h.2 x hx).2⟩, fun h => ⟨h.1, fun x hx => ⟨?_, h.2 x hx⟩⟩⟩
  have := (h.2 x hx).1.1
  omega
theorem fairL_ris (l : List Nq) : Ris noI (fairL l) := by
  unfold fairL
  split
  · rename_i h; exact ((mayL_iff l).1 h).1
  · exact List.Pairwise.nil
theorem fairL_may (l : List Nq) : ∀ x ∈ fairL l, mayP x := by
  unfold fairL
  split
  · rename_i h; exact ((mayL_iff l).1 h).2
  · intro x hx; simp at hx
theorem fairL_mayL (l : List Nq) : mayL (fairL l) = true := (mayL_iff _).2 ⟨fairL_ris l, fairL_may l⟩
theorem fairL_len (l : List Nq) : (fairL l).length ≤ l.length := by
  unfold fairL
  split
  · exact Nat.le_refl _
  · simp
theorem fairL_of {l : List Nq} (h : mayL l = true) : fairL l = l := by rw [fairL, if_pos h]
theorem fairL_fair (l : List Nq) : fairL (fairL l) = fairL l := fairL_of (fairL_mayL l)
/-- Rounds of May. -/
theorem may_bad {l : List Nq} {k : Nat} (hk : k < l.length) (hh : ¬ (mayP (at_ l k) ∧ (0 < k → (at_ l (k - 1)).1 < (at_ l k).1) ∧ 0 < (at_ l k).1)) : mayL l = false := by
  cases e : mayL l with
  | false => rfl
  | true =>
    exfalso
    obtain ⟨h1, h2⟩ := (mayL_iff l).1 e
    have h3 := h2 _ (at_mem hk)
    exact hh ⟨h3, fun h0 => h1.lt (by omega) hk, by have := h3.1.1; omega⟩
theorem may_good {l : List Nq} (h : ∀ k, k < l.length → mayP (at_ l k) ∧ (0 < k → (at_ l (k - 1)).1 < (at_ l k).1)) : mayL l = true := by
  rw [mayL_iff]
  refine ⟨?_, fun x hx => ?_⟩
  · have step : ∀ d i, i + d + 1 < l.length → (at_ l i).1 < (at_ l (i + d + 1)).1 := by
      intro d
      induction d with
      | zero => intro i hi; exact (h (i + 1) hi).2 (by omega)
      | succ d ih =>
        intro i hi
        have h1 := ih i (by omega)
        have h2 := (h (i + d + 1 + 1) (by omega)).2 (by omega)
        rw [show i + d + 1 + 1 - 1 = i + d + 1 by omega] at h2
        rw [show i + (d + 1) + 1 = i + d + 1 + 1 by omega]
        omega
    refine List.pairwise_iff_getElem.2 fun i j hi hj hij => ?_
    have := step (j - i - 1) i (by omega)
    rw [show i + (j - i - 1) + 1 = j by omega, at_eq hi, at_eq hj] at this
    exact this
  · obtain ⟨i, hi, rfl⟩ := mem_at hx
    exact (h i hi).1

/-! ### Racks -/
def rackOf (l : List Nq) (id : Int) : Option Int := (findL l id).map (·.2.1)
def racksOf (l : List Nq) (ids : List Int) : List Int := ids.filterMap (rackOf l)
def racksN (l : List Nq) (ids : List Int) : Nat := (dist (racksOf l ids)).length
theorem rackOf_range {l : List Nq} {id r : Int} (h : rackOf l id = some r) : 1 ≤ r ∧ r ≤ 8 := by
  unfold rackOf at h
  obtain ⟨x, hx, rfl⟩ := Option.map_eq_some_iff.1 h
  exact (fairL_may l x (List.mem_of_find?_eq_some hx)).2.1
theorem racksOf_mem (l : List Nq) (ids : List Int) (r : Int) : r ∈ racksOf l ids ↔ ∃ id ∈ ids, rackOf l id = some r := List.mem_filterMap
def eight : List Int := [1, 2, 3, 4, 5, 6, 7, 8]
theorem eight_mem {r : Int} (h : 1 ≤ r ∧ r ≤ 8) : r ∈ eight := by
  simp only [eight, List.mem_cons, List.not_mem_nil, or_false]
  omega
theorem racksN_le8 (l : List Nq) (ids : List Int) : racksN l ids ≤ 8 := by
  refine dist_within (ys := eight) fun r hr => ?_
  obtain ⟨id, _, h⟩ := (racksOf_mem l ids r).1 hr
  exact eight_mem (rackOf_range h)
theorem racksN_le (l : List Nq) (ids : List Int) : racksN l ids ≤ ids.length := Nat.le_trans (dist_le_len _) (List.length_filterMap_le _ _)
theorem racksN_snoc (l : List Nq) (ids : List Int) (id : Int) : racksN l ids ≤ racksN l (ids ++ [id]) ∧ racksN l (ids ++ [id]) ≤ racksN l ids + 1 := by
  unfold racksN racksOf
  rw [List.filterMap_append]
  cases h : rackOf l id with
  | none => simp [h]
  | some r =>
    have e : [id].filterMap (rackOf l) = [r] := by simp [h]
    rw [e, dist_snoc]
    split <;> omega
theorem racksN_twice (l : List Nq) (ids : List Int) : racksN l (ids ++ ids) = racksN l ids :=
  dist_eq_of fun y => by rw [racksOf_mem, racksOf_mem]; simp

end Go.Proofs.Ytflndnbjdhbppaa
