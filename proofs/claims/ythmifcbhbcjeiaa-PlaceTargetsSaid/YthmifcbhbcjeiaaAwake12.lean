/- suturelaw12.awake: the chapter's examples hold. -/
import Derived.Test.YthmifcbhbcjeiaaNodesR
namespace Go.Proofs.Ythmifcbhbcjeiaa
open Go Go.RowKit

theorem rd_row {w : World} {b size n : Nat} {cs : List Value} {t : TypeId} (hb : Bx w b t cs) (hs : cs.length = n * size) (hn : n ≤ 1000) : Rd w size (.slice (some ⟨b, 0, none⟩) n n) n cs :=
  ⟨hs, _, _, rfl, Nat.le_refl _, by unfold maxLen; omega, fun _ => ⟨b, 0, rfl, hb.lt, fun j u hj => by
    rw [Nat.zero_add, hb.cell]
    exact hj⟩⟩

def wake12 : List Nq := [(1, 1, 1, 0), (2, 2, 1, 0), (3, 1, 1, 0)]
theorem wake12_a : findL wake12 2 = some (2, 2, 1, 0) := by decide
theorem wake12_b : racksN wake12 [1, 3] = 1 := by decide
theorem wake12_c : racksN wake12 [1, 2, 9] = 2 := by decide

set_option maxHeartbeats 1000000 in
theorem awake12 (w : World) : Calls Try.prog 15 #[] w fun e w' => e = .returned (.bool true) ∧ Below w.heap.size w w' := by
  go_enter Try.func15, Try.ntmps15
  go_wp2_with fail
  have hb0 := below_one w (.cells (wake12.flatMap noC).toArray 28)
  have hx0 := Bx.new w 28 (wake12.flatMap noC)
  have hR0 := rd_row (size := 4) (n := 3) hx0 rfl (by omega)
  have HB0 := Lib.hid hb0
  have HR0 := Lib.hid hR0
  clear hb0 hx0 hR0
  refine (find_any _ wake12 2 (w.alloc (.cells (wake12.flatMap noC).toArray 28)) (by decide) HR0.out).mono ?_
  rintro e w1 ⟨rfl, hb1⟩
  rw [wake12_a]
  simp only [optN, noV, Option.getD_some, Option.isSome_some]
  have HB1 := Lib.hid (below_then HB0.out hb1)
  have HR1 := Lib.hid (HR0.out.below hb1 (Nat.le_refl _))
  clear hb1
  go_wp2_with fail
  have hal := below2 w1 (.cells #[.int .i64 2, .int .i64 2, .int .i64 1, .int .i64 0] 28) (.cells #[.int .i64 1, .int .i64 3] 3)
  have hx2 : Bx ((w1.alloc (.cells #[.int .i64 2, .int .i64 2, .int .i64 1, .int .i64 0] 28)).alloc (.cells #[.int .i64 1, .int .i64 3] 3)) (w1.heap.size + 1) 3 (([1, 3] : List Int).flatMap inC) := by
    have := Bx.new (w1.alloc (.cells #[.int .i64 2, .int .i64 2, .int .i64 1, .int .i64 0] 28)) 3 (([1, 3] : List Int).flatMap inC)
    rw [World.size_alloc] at this
    exact this
  have hy2 : Bx ((w1.alloc (.cells #[.int .i64 2, .int .i64 2, .int .i64 1, .int .i64 0] 28)).alloc (.cells #[.int .i64 1, .int .i64 3] 3)) w1.heap.size 28 [.int .i64 2, .int .i64 2, .int .i64 1, .int .i64 0] := (Bx.new w1 28 _).alloc _
  generalize ((w1.alloc (.cells #[.int .i64 2, .int .i64 2, .int .i64 1, .int .i64 0] 28)).alloc (.cells #[.int .i64 1, .int .i64 3] 3)) = W2 at *
  refine (racks_any _ _ wake12 [1, 3] W2 (by decide) (by decide) (HR1.out.below hal (Nat.le_refl _)) (rd_row (n := 2) hx2 rfl (by omega))).mono ?_
  rintro e w3 ⟨rfl, hb3⟩
  rw [wake12_b]
  have HR3 := Lib.hid ((HR1.out.below hal (Nat.le_refl _)).below hb3 (Nat.le_refl _))
  have HB3 := Lib.hid (below_then (below_then HB1.out hal) hb3)
  have HY3 := Lib.hid (hy2.below' hb3)
  clear hb3 hx2 hy2 hal
  go_wp2_with fail
  have hx4 := Bx.new w3 3 (([1, 2, 9] : List Int).flatMap inC)
  have hal := below_one w3 (.cells (([1, 2, 9] : List Int).flatMap inC).toArray 3)
  refine (racks_any _ _ wake12 [1, 2, 9] (w3.alloc (.cells (([1, 2, 9] : List Int).flatMap inC).toArray 3)) (by decide) (by decide) (HR3.out.below hal (Nat.le_refl _)) (rd_row (n := 3) hx4 rfl (by omega))).mono ?_
  rintro e w5 ⟨rfl, hb5⟩
  rw [wake12_c]
  have HB5 := Lib.hid (below_then (below_then HB3.out hal) hb5)
  obtain ⟨y0, y1, y2, y3⟩ := ((HY3.out.below' hal).below' hb5).four
  clear hb5 hal hx4
  go_wp2_with fail
  go_ret
  exact ⟨rfl, HB5.out⟩

end Go.Proofs.Ythmifcbhbcjeiaa
