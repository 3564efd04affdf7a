/- QueueOrder: the walk. -/
import Derived.Test.YtflndnbjdhbppaaAwake17
import Derived.Laws.StructEq
namespace Go.Proofs.Ytflndnbjdhbppaa
open Go Go.RowKit

/-- Three needs in boxes of their own. -/
structure Bx (w : World) (B : Nat) (a b c : Nd) : Prop where
  a_ : w.heap[B]? = some (.cells #[.int .i64 a.1, .int .i64 a.2.1, .int .i64 a.2.2] 27 (0, 0))
  b_ : w.heap[B + 1]? = some (.cells #[.int .i64 b.1, .int .i64 b.2.1, .int .i64 b.2.2] 27 (0, 0))
  c_ : w.heap[B + 1 + 1]? = some (.cells #[.int .i64 c.1, .int .i64 c.2.1, .int .i64 c.2.2] 27 (0, 0))
theorem Bx.below {w w' : World} {B : Nat} {a b c : Nd} (h : Bx w B a b c) (hb : Below w.heap.size w w') : Bx w' B a b c :=
  ⟨(hb.block _ (Array.getElem?_eq_some_iff.1 h.a_).1).trans h.a_, (hb.block _ (Array.getElem?_eq_some_iff.1 h.b_).1).trans h.b_, (hb.block _ (Array.getElem?_eq_some_iff.1 h.c_).1).trans h.c_⟩
theorem box_cells {w : World} {B : Nat} {x y z : Value} {t : TypeId} (h : w.heap[B]? = some (.cells #[x, y, z] t (0, 0))) : w.cell? ⟨B, 0, none⟩ = some x ∧ w.cell? ⟨B, 1, none⟩ = some y ∧ w.cell? ⟨B, 2, none⟩ = some z :=
  ⟨by rw [cell_of_row w B 0 _ _ _ h]; rfl, by rw [cell_of_row w B 1 _ _ _ h]; rfl, by rw [cell_of_row w B 2 _ _ _ h]; rfl⟩

set_option maxHeartbeats 4000000 in
theorem queueOrder_walk (a b c : Nd) (w : World) :
    Calls Try.prog 4 #[.agg #[.int .i64 a.1, .int .i64 a.2.1, .int .i64 a.2.2], .agg #[.int .i64 b.1, .int .i64 b.2.1, .int .i64 b.2.2], .agg #[.int .i64 c.1, .int .i64 c.2.1, .int .i64 c.2.2]] w fun e w' => e = .returned (.bool true) ∧ Below w.heap.size w w' := by
  have haa : ∀ x : Nd, urgN x x = false := fun x => (urgN_false _ _).2 (nlt_irr _)
  have hxy : urgN a b = true → urgN b a = false := fun h => (urgN_false _ _).2 (nlt_asym ((urgN_iff _ _).1 h))
  have heq : urgN a b = false → urgN b a = false → a = b := fun h k => nlt_tri ((urgN_false _ _).1 h) ((urgN_false _ _).1 k)
  have htr : urgN a b = true → urgN b c = true → urgN a c = true := fun h k => by
    rw [urgN_iff] at *
    unfold nlt at *
    omega
  have hbx : Bx (((w.alloc (.cells #[.int .i64 a.1, .int .i64 a.2.1, .int .i64 a.2.2] 27)).alloc (.cells #[.int .i64 b.1, .int .i64 b.2.1, .int .i64 b.2.2] 27)).alloc (.cells #[.int .i64 c.1, .int .i64 c.2.1, .int .i64 c.2.2] 27)) w.heap.size a b c := by
    refine ⟨?_, ?_, ?_⟩
    · rw [Below.heap_alloc _ _ _ (by simp; omega), Below.heap_alloc _ _ _ (by simp)]; exact heap_alloc_new _ _
    · rw [Below.heap_alloc _ _ _ (by simp)]
      have := heap_alloc_new (w.alloc (.cells #[.int .i64 a.1, .int .i64 a.2.1, .int .i64 a.2.2] 27)) (.cells #[.int .i64 b.1, .int .i64 b.2.1, .int .i64 b.2.2] 27)
      simpa using this
    · have := heap_alloc_new ((w.alloc (.cells #[.int .i64 a.1, .int .i64 a.2.1, .int .i64 a.2.2] 27)).alloc (.cells #[.int .i64 b.1, .int .i64 b.2.1, .int .i64 b.2.2] 27)) (.cells #[.int .i64 c.1, .int .i64 c.2.1, .int .i64 c.2.2] 27)
      simpa using this
  have hbl : Below w.heap.size w (((w.alloc (.cells #[.int .i64 a.1, .int .i64 a.2.1, .int .i64 a.2.2] 27)).alloc (.cells #[.int .i64 b.1, .int .i64 b.2.1, .int .i64 b.2.2] 27)).alloc (.cells #[.int .i64 c.1, .int .i64 c.2.1, .int .i64 c.2.2] 27)) := (below_two _ _ _).alloc (by simp; omega) _
  obtain ⟨a0, a1, a2⟩ := a
  obtain ⟨b0, b1, b2⟩ := b
  obtain ⟨c0, c1, c2⟩ := c
  have haa : ∀ x y z : Int, urg x y z x y z = false := fun x y z => haa (x, y, z)
  have HAA := Lib.hid haa
  clear haa
  simp only [urgN] at hxy heq htr
  have HXY := Lib.hid hxy
  have HEQ := Lib.hid heq
  have HTR := Lib.hid htr
  have HBX := Lib.hid hbx
  have HBL := Lib.hid hbl
  clear hxy heq htr hbx hbl
  go_enter Try.func4, Try.ntmps4
  go_wp2_with fail
  refine (awake17 _).mono ?_
  rintro e w1 ⟨rfl, hb1⟩
  have hx1 := HBX.out.below hb1
  have hl1 := below_then HBL.out (hb1)
  clear hb1 HBX HBL
  obtain ⟨p0, p1, p2⟩ := box_cells hx1.a_
  obtain ⟨q0, q1, q2⟩ := box_cells hx1.b_
  obtain ⟨B, hB⟩ : ∃ B, w.heap.size = B := ⟨_, rfl⟩
  have HL1 := Lib.hid hl1
  have HX1 := Lib.hid hx1
  clear hl1 hx1
  rw [hB] at p0 p1 p2 q0 q1 q2 HX1 ⊢
  have HB := Lib.hid hB
  clear hB
  go_wp2_with fail
  refine (urgent_any _ _ _ _ _ _ _).mono ?_
  rintro e w2 ⟨rfl, hb2⟩
  have hx2 := HX1.out.below hb2
  have HL2 := Lib.hid (below_then HL1.out hb2)
  clear hb2 p0 p1 p2 q0 q1 q2
  obtain ⟨p0, p1, p2⟩ := box_cells hx2.a_
  obtain ⟨q0, q1, q2⟩ := box_cells hx2.b_
  have HX2 := Lib.hid hx2
  clear hx2
  go_wp2_with fail
  refine (urgent_any _ _ _ _ _ _ _).mono ?_
  rintro e w3 ⟨rfl, hb3⟩
  have hx3 := HX2.out.below hb3
  have HL3 := Lib.hid (below_then HL2.out hb3)
  clear hb3 p0 p1 p2 q0 q1 q2
  obtain ⟨p0, p1, p2⟩ := box_cells hx3.a_
  obtain ⟨q0, q1, q2⟩ := box_cells hx3.b_
  have HX3 := Lib.hid hx3
  clear hx3
  have hneq : ((urg a0 a1 a2 b0 b1 b2 = false ∧ urg b0 b1 b2 a0 a1 a2 = false) ∧ (a0, a1, a2) = (b0, b1, b2)) ∨ (urg a0 a1 a2 b0 b1 b2 = true ∧ urg b0 b1 b2 a0 a1 a2 = false) ∨ (urg a0 a1 a2 b0 b1 b2 = false ∧ urg b0 b1 b2 a0 a1 a2 = true) := by
    cases h1 : urg a0 a1 a2 b0 b1 b2 with
    | true => exact .inr (.inl ⟨rfl, HXY.out h1⟩)
    | false => cases h2 : urg b0 b1 b2 a0 a1 a2 with
      | true => exact .inr (.inr ⟨rfl, rfl⟩)
      | false => exact .inl ⟨⟨rfl, rfl⟩, HEQ.out h1 h2⟩
  have hparts : urg a0 a1 a2 b0 b1 b2 = true ∨ urg b0 b1 b2 a0 a1 a2 = true → ((a0 == b0) = false ∧ True) ∨ (a0 = b0 ∧ (a1 == b1) = false) ∨ (a0 = b0 ∧ a1 = b1 ∧ (a2 == b2) = false) := by
    intro h
    by_cases e0 : a0 = b0
    · by_cases e1 : a1 = b1
      · by_cases e2 : a2 = b2
        · subst e0 e1 e2
          rw [HAA.out] at h
          simp at h
        · exact .inr (.inr ⟨e0, e1, by simpa using e2⟩)
      · exact .inr (.inl ⟨e0, by simpa using e1⟩)
    · exact .inl ⟨by simpa using e0, trivial⟩
  rcases hneq with ⟨⟨h1, h2⟩, h3⟩ | ⟨h1, h2⟩ | ⟨h1, h2⟩
  · simp only [Prod.mk.injEq] at h3
    obtain ⟨e1, e2, e3⟩ := h3
    subst e1 e2 e3
    rw [h1]
    go_wp2_with fail
    all_goals
      refine (urgent_any _ _ _ _ _ _ _).mono ?_
      rintro e w4 ⟨rfl, hb4⟩
      rw [HAA.out]
      have HL4 := Lib.hid (below_then HL3.out hb4)
      clear hb4 p0 p1 p2 q0 q1 q2
      go_wp2_with fail
      go_ret
      exact ⟨rfl, HL4.out⟩
  · have hp := hparts (.inl h1)
    rw [h1, h2]
    clear hparts
    have H1 := Lib.hid h1
    clear h1 h2
    rcases hp with ⟨hp, _⟩ | ⟨e0, hp⟩ | ⟨e0, e1, hp⟩
    all_goals (try subst e0)
    all_goals (try subst e1)
    all_goals
      go_wp2_with fail
      refine (urgent_any _ _ _ _ _ _ _).mono ?_
      rintro e w4 ⟨rfl, hb4⟩
      rw [HAA.out]
      have hx4 := HX3.out.below hb4
      have HL4 := Lib.hid (below_then HL3.out hb4)
      clear hb4 p0 p1 p2 q0 q1 q2
      obtain ⟨p0, p1, p2⟩ := box_cells hx4.b_
      obtain ⟨q0, q1, q2⟩ := box_cells hx4.c_
      have HX4 := Lib.hid hx4
      clear hx4
      go_wp2_with fail
      refine (urgent_any _ _ _ _ _ _ _).mono ?_
      rintro e w5 ⟨rfl, hb5⟩
      have hx5 := HX4.out.below hb5
      have HL5 := Lib.hid (below_then HL4.out hb5)
      clear hb5 p0 p1 p2 q0 q1 q2
      obtain ⟨p0, p1, p2⟩ := box_cells hx5.a_
      obtain ⟨q0, q1, q2⟩ := box_cells hx5.c_
      clear hx5
      have hurg := HTR.out H1.out
      generalize hg3 : urg _ _ b2 c0 c1 c2 = t3 at hurg ⊢
      clear hg3
      cases t3 with
      | false =>
        go_wp2_with fail
        go_ret
        exact ⟨rfl, HL5.out⟩
      | true =>
        have HUR := Lib.hid (hurg rfl)
        clear hurg
        go_wp2_with fail
        refine (urgent_any _ _ _ _ _ _ _).mono ?_
        rintro e w6 ⟨rfl, hb6⟩
        rw [HUR.out]
        have HL6 := Lib.hid (below_then HL5.out hb6)
        clear hb6
        go_wp2_with fail
        go_ret
        exact ⟨rfl, HL6.out⟩
  · have hp := hparts (.inr h2)
    rw [h1, h2]
    clear hparts h1 h2
    rcases hp with ⟨hp, _⟩ | ⟨e0, hp⟩ | ⟨e0, e1, hp⟩
    all_goals (try subst e0)
    all_goals (try subst e1)
    all_goals
      go_wp2_with fail
      refine (urgent_any _ _ _ _ _ _ _).mono ?_
      rintro e w4 ⟨rfl, hb4⟩
      rw [HAA.out]
      have HL4 := Lib.hid (below_then HL3.out hb4)
      clear hb4 p0 p1 p2 q0 q1 q2
      go_wp2_with fail
      go_ret
      exact ⟨rfl, HL4.out⟩

end Go.Proofs.Ytflndnbjdhbppaa
