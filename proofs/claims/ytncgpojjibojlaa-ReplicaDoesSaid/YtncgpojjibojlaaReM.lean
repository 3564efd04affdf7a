/- Replicas as plain lists: which may be, which one is a chunk's, one put in its place. No program in sight. -/
import Derived.Test.YtncgpojjibojlaaKindsR
namespace Go.Proofs.Ytncgpojjibojlaa
open Go

def flI (t : Bool) : Int := if t then 1 else 0
def kR (x : Re) : Int := 2 * x.1 + flI x.2.2.2.1
def namedB (c v : Int) : Bool := decide ((1 ≤ c ∧ c ≤ 1048576) ∧ (1 ≤ v ∧ v ≤ 1073741824))
def okR (x : Re) : Bool := namedB x.1 x.2.1 && !(x.2.2.2.1 && x.2.2.2.2)
def okP (y x : Re) : Prop := kR y < kR x ∧ (y.1 = x.1 → y.2.1 < x.2.1)
instance (y x : Re) : Decidable (okP y x) := by unfold okP; exact inferInstance
def mayR (l : List Re) : Bool := decide (∀ k, k < l.length → okR (at_ l k) = true ∧ (0 < k → okP (at_ l (k - 1)) (at_ l k)))
def fairR (l : List Re) : List Re := if mayR l then l else []
theorem flI_le (t : Bool) : 0 ≤ flI t ∧ flI t ≤ 1 := by cases t <;> simp [flI]
theorem flI_inj {s t : Bool} (h : flI s = flI t) : s = t := by cases s <;> cases t <;> simp [flI] at h ⊢
theorem kR_le {x y : Re} (h : kR x ≤ kR y) : x.1 ≤ y.1 := by
  unfold kR at h
  have := flI_le x.2.2.2.1
  have := flI_le y.2.2.2.1
  omega
theorem kR_eq {x : Re} {c : Int} {t : Bool} : kR x = 2 * c + flI t ↔ x.1 = c ∧ x.2.2.2.1 = t := by
  unfold kR
  constructor
  · intro h
    have := flI_le x.2.2.2.1
    have := flI_le t
    exact ⟨by omega, flI_inj (by omega)⟩
  · rintro ⟨rfl, rfl⟩; rfl
theorem okP_trans {x y z : Re} (h1 : okP x y) (h2 : okP y z) : okP x z := by
  have a := kR_le (Int.le_of_lt h1.1)
  have b := kR_le (Int.le_of_lt h2.1)
  refine ⟨by have := h1.1; have := h2.1; omega, fun e => ?_⟩
  have := h1.2 (by omega)
  have := h2.2 (by omega)
  omega
theorem mayR_bad {l : List Re} {k : Nat} (hk : k < l.length) (hh : ¬ (okR (at_ l k) = true ∧ (0 < k → okP (at_ l (k - 1)) (at_ l k)))) : mayR l = false :=
  decide_eq_false (fun h => hh (h k hk))
theorem mayR_good {l : List Re} (h : ∀ k, k < l.length → okR (at_ l k) = true ∧ (0 < k → okP (at_ l (k - 1)) (at_ l k))) : mayR l = true := decide_eq_true h
theorem mayR_iff (l : List Re) : mayR l = true ↔ (∀ x ∈ l, okR x = true) ∧ l.Pairwise okP := by
  unfold mayR
  rw [decide_eq_true_eq]
  constructor
  · intro h
    refine ⟨fun x hx => ?_, ?_⟩
    · obtain ⟨i, hi, rfl⟩ := mem_at hx
      exact (h i hi).1
    · have step : ∀ d i, i + d + 1 < l.length → okP (at_ l i) (at_ l (i + d + 1)) := by
        intro d
        induction d with
        | zero => intro i hi; exact (h (i + 1) hi).2 (by omega)
        | succ d ih =>
          intro i hi
          have h1 := ih i (by omega)
          have h2 := (h (i + d + 1 + 1) (by omega)).2 (by omega)
          rw [show i + d + 1 + 1 - 1 = i + d + 1 by omega] at h2
          exact okP_trans h1 h2
      refine List.pairwise_iff_getElem.2 fun i j hi hj hij => ?_
      have := step (j - i - 1) i (by omega)
      rw [show i + (j - i - 1) + 1 = j by omega, at_eq hi, at_eq hj] at this
      exact this
  · rintro ⟨h1, h2⟩ k hk
    refine ⟨h1 _ (at_mem hk), fun h0 => ?_⟩
    rw [at_eq hk, at_eq (show k - 1 < l.length by omega)]
    exact List.pairwise_iff_getElem.1 h2 (k - 1) k (by omega) hk (by omega)
theorem mayR_ris {l : List Re} (h : mayR l = true) : Ris kR l := ((mayR_iff l).1 h).2.imp (fun h => h.1)
theorem mayR_nil : mayR [] = true := rfl
theorem fairR_may (l : List Re) : mayR (fairR l) = true := by
  unfold fairR
  split
  · assumption
  · exact mayR_nil
theorem fairR_ris (l : List Re) : Ris kR (fairR l) := mayR_ris (fairR_may l)
theorem fairR_len (l : List Re) : (fairR l).length ≤ l.length := by
  unfold fairR
  split
  · exact Nat.le_refl _
  · simp
theorem fairR_of {l : List Re} (h : mayR l = true) : fairR l = l := by rw [fairR, if_pos h]
theorem fairR_fair (l : List Re) : fairR (fairR l) = fairR l := fairR_of (fairR_may l)
/-- Some of those that may be, in their order, may be. -/
theorem mayR_sub {l m : List Re} (h : mayR l = true) (hs : m.Sublist l) : mayR m = true :=
  (mayR_iff m).2 ⟨fun x hx => ((mayR_iff l).1 h).1 x (hs.subset hx), ((mayR_iff l).1 h).2.sublist hs⟩

/-- A chunk's one, held or being installed. -/
def findR (l : List Re) (c : Int) (t : Bool) : Option Re := l.find? (fun x => kR x == 2 * c + flI t)
theorem findR_some {l : List Re} (h : Ris kR l) {c : Int} {t : Bool} {x : Re} : findR l c t = some x ↔ x ∈ l ∧ x.1 = c ∧ x.2.2.2.1 = t := by
  unfold findR
  constructor
  · intro h1
    exact ⟨List.mem_of_find?_eq_some h1, kR_eq.1 (by simpa using List.find?_some h1)⟩
  · rintro ⟨h1, h2⟩
    have := h.find_mem h1
    rw [kR_eq.2 h2] at this
    exact this
theorem findR_none {l : List Re} {c : Int} {t : Bool} : findR l c t = none ↔ ∀ x ∈ l, ¬ (x.1 = c ∧ x.2.2.2.1 = t) := by
  unfold findR
  rw [List.find?_eq_none]
  constructor
  · intro h x hx h1
    exact h x hx (by simpa using kR_eq.2 h1)
  · intro h x hx h1
    exact h x hx (kR_eq.1 (by simpa using h1))

/-- One in its place: instead of what is there, or between the others. -/
def putR (l : List Re) (x : Re) : List Re := l.filter (fun y => decide (kR y < kR x)) ++ x :: l.filter (fun y => decide (kR x < kR y))
def dropR (l : List Re) (k : Int) : List Re := l.filter (fun y => kR y != k)
theorem cut_take {l : List Re} {k : Int} {i : Nat} (c : Cut kR l k i) (h : Ris kR l) : l.filter (fun y => decide (kR y < k)) = l.take i := by
  have e : l.take i ++ l.drop i = l := List.take_append_drop i l
  conv => lhs; rw [← e]
  rw [List.filter_append]
  have h1 : (l.take i).filter (fun y => decide (kR y < k)) = l.take i := List.filter_eq_self.2 fun y hy => by
    obtain ⟨j, hj, rfl⟩ := List.mem_iff_getElem.1 hy
    rw [List.getElem_take]
    rw [List.length_take] at hj
    have := c.lo j (by omega)
    rw [at_eq (show j < l.length by omega)] at this
    simpa using this
  have h2 : (l.drop i).filter (fun y => decide (kR y < k)) = [] := List.filter_eq_nil_iff.2 fun y hy => by
    obtain ⟨j, hj, rfl⟩ := List.mem_iff_getElem.1 hy
    rw [List.getElem_drop]
    have hj' : i + j < l.length := by rw [List.length_drop] at hj; omega
    have := c.hi (i + j) (by omega) hj'
    rw [at_eq hj'] at this
    simp
    omega
  rw [h1, h2, List.append_nil]
theorem cut_drop_no {l : List Re} {k : Int} {i : Nat} (c : Cut kR l k i) (h : Ris kR l) (hn : isAt kR l k i = false) : l.filter (fun y => decide (k < kR y)) = l.drop i := by
  have e : l.take i ++ l.drop i = l := List.take_append_drop i l
  conv => lhs; rw [← e]
  rw [List.filter_append]
  have h1 : (l.take i).filter (fun y => decide (k < kR y)) = [] := List.filter_eq_nil_iff.2 fun y hy => by
    obtain ⟨j, hj, rfl⟩ := List.mem_iff_getElem.1 hy
    rw [List.getElem_take]
    rw [List.length_take] at hj
    have := c.lo j (by omega)
    rw [at_eq (show j < l.length by omega)] at this
    simp
    omega
  have h2 : (l.drop i).filter (fun y => decide (k < kR y)) = l.drop i := List.filter_eq_self.2 fun y hy => by
    obtain ⟨j, hj, rfl⟩ := List.mem_iff_getElem.1 hy
    rw [List.getElem_drop]
    have hj' : i + j < l.length := by rw [List.length_drop] at hj; omega
    have h3 := c.hi (i + j) (by omega) hj'
    have h4 : k ≠ kR (at_ l (i + j)) := fun e4 => by
      rcases Nat.eq_zero_or_pos j with h5 | h5
      · subst h5
        rw [Nat.add_zero] at e4 hj'
        have h9 : isAt kR l k i = true := decide_eq_true ⟨hj', e4.symm⟩
        rw [hn] at h9
        cases h9
      · have h6 := c.hi i (Nat.le_refl _) (by omega)
        have h7 := h.lt (i := i) (j := i + j) (by omega) hj'
        omega
    rw [at_eq hj'] at h3 h4
    simp
    omega
  rw [h1, h2, List.nil_append]
theorem cut_drop_at {l : List Re} {k : Int} {i : Nat} (c : Cut kR l k i) (h : Ris kR l) (hn : isAt kR l k i = true) : l.filter (fun y => decide (k < kR y)) = l.drop (i + 1) := by
  obtain ⟨hi, hk⟩ := of_decide_eq_true hn
  have e : l.take (i + 1) ++ l.drop (i + 1) = l := List.take_append_drop (i + 1) l
  conv => lhs; rw [← e]
  rw [List.filter_append]
  have h1 : (l.take (i + 1)).filter (fun y => decide (k < kR y)) = [] := List.filter_eq_nil_iff.2 fun y hy => by
    obtain ⟨j, hj, rfl⟩ := List.mem_iff_getElem.1 hy
    rw [List.getElem_take]
    rw [List.length_take] at hj
    have hjl : j < l.length := by omega
    rcases Nat.lt_or_ge j i with h2 | h2
    · have := c.lo j h2
      rw [at_eq hjl] at this
      simp
      omega
    · obtain rfl : j = i := by omega
      rw [at_eq hjl] at hk
      simp
      omega
  have h2 : (l.drop (i + 1)).filter (fun y => decide (k < kR y)) = l.drop (i + 1) := List.filter_eq_self.2 fun y hy => by
    obtain ⟨j, hj, rfl⟩ := List.mem_iff_getElem.1 hy
    rw [List.getElem_drop]
    have hj' : i + 1 + j < l.length := by rw [List.length_drop] at hj; omega
    have h7 := h.lt (i := i) (j := i + 1 + j) (by omega) hj'
    rw [hk, at_eq hj'] at h7
    simpa using h7
  rw [h1, h2, List.nil_append]
theorem put_new {l : List Re} {x : Re} {i : Nat} (c : Cut kR l (kR x) i) (h : Ris kR l) (hn : isAt kR l (kR x) i = false) : l.take i ++ x :: l.drop i = putR l x := by
  unfold putR
  rw [cut_take c h, cut_drop_no c h hn]
theorem put_there {l : List Re} {x : Re} {i : Nat} (c : Cut kR l (kR x) i) (h : Ris kR l) (hn : isAt kR l (kR x) i = true) : l.set i x = putR l x := by
  unfold putR
  have hi := (of_decide_eq_true hn).1
  rw [cut_take c h, cut_drop_at c h hn]
  rw [List.set_eq_take_append_cons_drop, if_pos hi]
theorem drop_at_cut {l : List Re} {k : Int} {i : Nat} (c : Cut kR l k i) (h : Ris kR l) (hn : isAt kR l k i = true) : l.take i ++ l.drop (i + 1) = dropR l k := by
  obtain ⟨hi, hk⟩ := of_decide_eq_true hn
  rw [← cut_take c h, ← cut_drop_at c h hn]
  unfold dropR
  have e : l.take i ++ at_ l i :: l.drop (i + 1) = l := by rw [← drop_at hi]; exact List.take_append_drop i l
  rw [cut_take c h, cut_drop_at c h hn]
  conv => rhs; rw [← e]
  rw [List.filter_append, List.filter_cons]
  rw [← cut_take c h, ← cut_drop_at c h hn, List.filter_filter, List.filter_filter]
  have hz : (kR (at_ l i) != k) = false := by simp [hk]
  rw [hz]
  simp only [Bool.false_eq_true, if_false]
  congr 1
  · refine List.filter_congr fun y _ => ?_
    rw [Bool.eq_iff_iff]
    simp
    omega
  · refine List.filter_congr fun y _ => ?_
    rw [Bool.eq_iff_iff]
    simp
    omega
theorem dropR_sub (l : List Re) (k : Int) : (dropR l k).Sublist l := List.filter_sublist
theorem dropR_ris {l : List Re} (h : Ris kR l) (k : Int) : Ris kR (dropR l k) := h.sublist (dropR_sub l k)
theorem putR_mem {l : List Re} {x y : Re} : y ∈ putR l x ↔ y = x ∨ (y ∈ l ∧ kR y ≠ kR x) := by
  unfold putR
  rw [List.mem_append, List.mem_cons, List.mem_filter, List.mem_filter, decide_eq_true_eq, decide_eq_true_eq]
  constructor
  · rintro (⟨h1, h2⟩ | rfl | ⟨h1, h2⟩)
    · exact .inr ⟨h1, by omega⟩
    · exact .inl rfl
    · exact .inr ⟨h1, by omega⟩
  · rintro (rfl | ⟨h1, h2⟩)
    · exact .inr (.inl rfl)
    · rcases Int.lt_or_lt_of_ne h2 with h3 | h3
      · exact .inl ⟨h1, h3⟩
      · exact .inr (.inr ⟨h1, h3⟩)
theorem putR_ris {l : List Re} (h : Ris kR l) (x : Re) : Ris kR (putR l x) := by
  refine List.pairwise_append.2 ⟨h.sublist List.filter_sublist, List.pairwise_cons.2 ⟨fun y hy => by simpa using (List.mem_filter.1 hy).2, h.sublist List.filter_sublist⟩, fun y hy z hz => ?_⟩
  have h1 : kR y < kR x := by simpa using (List.mem_filter.1 hy).2
  rcases List.mem_cons.1 hz with rfl | hz
  · exact h1
  · have h2 : kR x < kR z := by simpa using (List.mem_filter.1 hz).2
    omega
theorem filter3_len (l : List Re) (k : Int) : (l.filter (fun y => decide (kR y < k))).length + (l.filter (fun y => decide (k < kR y))).length = (dropR l k).length := by
  unfold dropR
  induction l with
  | nil => rfl
  | cons y l ih =>
    simp only [List.filter_cons]
    rcases Int.lt_trichotomy (kR y) k with h | h | h
    · have h1 : ¬ k < kR y := by omega
      have h2 : (kR y != k) = true := by simp; omega
      simp only [h, h1, h2, decide_true, decide_false, if_true, Bool.false_eq_true, if_false, List.length_cons]
      omega
    · subst h
      simp
      omega
    · have h1 : ¬ kR y < k := by omega
      have h2 : (kR y != k) = true := by simp; omega
      simp only [h, h1, h2, decide_true, decide_false, if_true, Bool.false_eq_true, if_false, List.length_cons]
      omega
theorem putR_len (l : List Re) (x : Re) : (putR l x).length = (dropR l (kR x)).length + 1 := by
  unfold putR
  rw [List.length_append, List.length_cons, ← filter3_len]
  omega
theorem dropR_len_le (l : List Re) (k : Int) : (dropR l k).length ≤ l.length := List.length_filter_le _ _

end Go.Proofs.Ytncgpojjibojlaa
