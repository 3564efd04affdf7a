/- cmp.Compare at int: its contract. -/
import Derived.Test.YthmifcbhbcjeiaaBase
import Derived.Test.YthmifcbhbcjeiaaChecked
import Derived.WalkLawsBesides
import Derived.BigQuiet
import Derived.Outline
namespace Go.Proofs.Ythmifcbhbcjeiaa
open Go Go.RowKit

def cmpI (x y : Int) : Int := if x < y then -1 else if y < x then 1 else 0

theorem cmp_any (x y : Int) (w : World) :
    Calls Try.prog 63 #[.int .i64 x, .int .i64 y] w fun e w' => e = .returned (.int .i64 (cmpI x y)) ∧ w = w' := by
  by_cases h1 : x < y
  · go_enter Try.func63, Try.ntmps63
    go_wp2
    go_ret
    exact ⟨by rw [show cmpI x y = -1 by simp [cmpI, h1]]; rfl, rfl⟩
  · by_cases h2 : y < x
    · go_enter Try.func63, Try.ntmps63
      go_wp2
      go_ret
      exact ⟨by rw [show cmpI x y = 1 by simp [cmpI, h1, h2]]; rfl, rfl⟩
    · go_enter Try.func63, Try.ntmps63
      go_wp2
      go_ret
      exact ⟨by rw [show cmpI x y = 0 by unfold cmpI; rw [if_neg (by omega), if_neg (by omega)]]; rfl, rfl⟩

theorem cmpI_lt (x y : Int) : cmpI x y < 0 ↔ x < y := by
  unfold cmpI
  split
  · simp; assumption
  · split <;> simp <;> omega
theorem cmpI_eq (x y : Int) : cmpI x y = 0 ↔ x = y := by
  unfold cmpI
  split
  · simp; omega
  · split <;> simp <;> omega

end Go.Proofs.Ythmifcbhbcjeiaa
