/- suturelaw09.awake: the chapter's example holds. -/
import Derived.Test.YtjjpoialoabfoaaSessP
namespace Go.Proofs.Ytjjpoialoabfoaa
open Go Go.RowKit

theorem wake09_a : putSE [] 1 1 = 0 := by decide
theorem wake09_b : putO [] (1, 1, 7) = [(1, 1, 7)] := by decide
theorem wake09_c : lookS [(1, 1, 7)] 1 1 = (7, true, 0) := by decide
theorem wake09_d : lookS [(1, 1, 7)] 1 3 = (0, false, 10) := by decide

set_option maxHeartbeats 1000000 in
theorem awake09 (w : World) : Calls Try.prog 8 #[] w fun e w' => e = .returned (.bool true) ∧ Below w.heap.size w w' := by
  go_enter Try.func8, Try.ntmps8
  go_wp2_with fail
  refine (put_any _ [] 1 1 7 w (by simp) (Rd.nil_ _ _)).mono ?_
  rintro e w1 ⟨v1, rfl, ho1, hb1⟩
  simp only [wake09_a]
  rw [wake09_b] at ho1
  have HO1 := Lib.hid ho1
  have HB1 := Lib.hid hb1
  clear ho1 hb1
  go_wp2_with fail
  refine (look_any v1 [(1, 1, 7)] 1 1 w1 (by simp) HO1.out.rd).mono ?_
  rintro e w2 ⟨rfl, hb2⟩
  rw [wake09_c]
  have HB2 := Lib.hid (below_then HB1.out hb2)
  have HR2 := Lib.hid (HO1.out.rd.below hb2 (Nat.le_refl _))
  clear hb2
  simp only
  go_wp2_with fail
  refine (look_any v1 [(1, 1, 7)] 1 3 w2 (by simp) HR2.out).mono ?_
  rintro e w3 ⟨rfl, hb3⟩
  rw [wake09_d]
  have HB3 := Lib.hid (below_then HB2.out hb3)
  clear hb3
  simp only
  go_wp2_with fail
  go_ret
  exact ⟨rfl, HB3.out⟩

end Go.Proofs.Ytjjpoialoabfoaa
