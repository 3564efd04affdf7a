/- queue.order and queue.Urgent: their contracts. -/
import Derived.Test.YtflndnbjdhbppaaCmp
namespace Go.Proofs.Ytflndnbjdhbppaa
open Go Go.RowKit

theorem below_two (w : World) (o o' : Obj) : Below w.heap.size w ((w.alloc o).alloc o') := ((Below.refl _ _).alloc (Nat.le_refl _) o).alloc (by simp) o'

def needV (a b c : Int) : Value := .agg #[.int .i64 a, .int .i64 b, .int .i64 c]

def ordI (a0 a1 a2 b0 b1 b2 : Int) : Int := orI [cmpI a2 b2, cmpI a1 b1, cmpI a0 b0]

theorem order_any (a0 a1 a2 b0 b1 b2 : Int) (w : World) :
    Calls Try.prog 39 #[.agg #[.int .i64 a0, .int .i64 a1, .int .i64 a2], .agg #[.int .i64 b0, .int .i64 b1, .int .i64 b2]] w fun e w' => e = .returned (.int .i64 (ordI a0 a1 a2 b0 b1 b2)) ∧ Below w.heap.size w w' := by
  go_enter Try.func39, Try.ntmps39
  go_wp2_with fail
  refine wp_region_quiet_tail (C := fun w' => ∃ n, w' = World.drewN _ n) 15 (by kernel_rfl) (by kernel_rfl) ⟨1, rfl⟩ ?_
  simp only [List.take_succ_cons, List.take_zero, List.drop_succ_cons, List.drop_zero]
  repeat (go_big_quiet_step ((go_at_call 50; exact Calls.quiet_of_same ((cmp_any _ _ _).mono fun _ _ h => ⟨h.1, h.2.symm⟩))))
  refine wpQuiet_nil ?_
  intro _ hw'
  obtain ⟨nq, hw''⟩ := hw'
  subst hw''
  go_wp2_with fail
  refine (or_any (w.heap.size + 1 + 1) 0 3 [cmpI a2 b2, cmpI a1 b1, cmpI a0 b0] _ (by simp) ?_).mono ?_
  · intro j hj
    match j, hj with
    | 0, _ => rw [World.cell?_alloc_at _ _ _ _ (by simp)]; rfl
    | 1, _ => rw [World.cell?_alloc_at _ _ _ _ (by simp)]; rfl
    | 2, _ => rw [World.cell?_alloc_at _ _ _ _ (by simp)]; rfl
  rintro e w1 ⟨rfl, rfl⟩
  go_wp2
  go_ret
  exact ⟨rfl, (below_drewN (below_two _ _ _) _).alloc (by simp; omega) _⟩

def urg (a0 a1 a2 b0 b1 b2 : Int) : Bool := decide (ordI a0 a1 a2 b0 b1 b2 < 0)

theorem urgent_any (a0 a1 a2 b0 b1 b2 : Int) (w : World) :
    Calls Try.prog 19 #[.agg #[.int .i64 a0, .int .i64 a1, .int .i64 a2], .agg #[.int .i64 b0, .int .i64 b1, .int .i64 b2]] w fun e w' => e = .returned (.bool (urg a0 a1 a2 b0 b1 b2)) ∧ Below w.heap.size w w' := by
  go_enter Try.func19, Try.ntmps19
  go_wp2_with (go_at_call 39; refine (order_any _ _ _ _ _ _ _).mono ?_; rintro e w1 ⟨rfl, hb⟩)
  go_ret
  exact ⟨rfl, (below_two _ _ _).trans (hb.mono (by simp; omega))⟩

end Go.Proofs.Ytflndnbjdhbppaa
