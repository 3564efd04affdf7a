/- SessionTells: the walk. -/
import Derived.Test.YtjjpoialoabfoaaAwake09
import Derived.Test.YtjjpoialoabfoaaRef09P
import Derived.Test.YtjjpoialoabfoaaSameSe
import Derived.Test.YtjjpoialoabfoaaSessL
namespace Go.Proofs.Ytjjpoialoabfoaa
open Go Go.RowKit

set_option maxHeartbeats 4000000 in
set_option maxRecDepth 100000 in
theorem sessionTells_walk (v : Value) (l : List Se) (c q : Int) (W : World) (hR : Rd W 3 v l.length (l.flatMap seC)) :
    Calls Try.prog 3 #[v, .int .i64 c, .int .i64 q] W fun e w' => e = .returned (.bool true) ∧ Below W.heap.size W w' := by
  obtain ⟨A, cap, hv, hcap, hnc⟩ := hR.shape
  obtain ⟨n, hn⟩ : ∃ n, l.length = n := ⟨_, rfl⟩
  have HR := Lib.hid hR
  have HN := Lib.hid hn
  rw [hn] at hv hnc
  subst hv
  clear hR hn
  go_enter Try.func3, Try.ntmps3
  go_wp2_with fail
  refine (awake09 _).mono ?_
  rintro e w1 ⟨rfl, hb1⟩
  have HB1 := Lib.hid hb1
  clear hb1
  by_cases h1 : (100 : Int) < (n : Int)
  · go_wp2_with fail
    go_ret
    exact ⟨rfl, HB1.out⟩
  · have HL := Lib.hid (show l.length ≤ 100 by have := HN.out; omega)
    go_wp2_with fail
    refine (look_any _ l c q w1 (by have := HL.out; omega) (HR.out.below HB1.out (Nat.le_refl _))).mono ?_
    rintro e w2 ⟨rfl, hb2⟩
    have HB2 := Lib.hid (below_then HB1.out hb2)
    obtain ⟨a0, t0, e0, hlk⟩ : ∃ a0 t0 e0, lookS l c q = (a0, t0, e0) := ⟨_, _, _, rfl⟩
    rw [hlk]
    have HLK := Lib.hid hlk
    clear hlk hb2
    simp only
    go_wp2_with fail
    refine (rlook_any _ l c q w2 (HR.out.below HB2.out (Nat.le_refl _))).mono ?_
    rintro e w3 ⟨rfl, hb3⟩
    have HB3 := Lib.hid (below_then HB2.out hb3)
    rw [HLK.out]
    clear hb3
    simp only
    go_wp2_with fail
    refine (sMay_any _ l w3 (HR.out.below HB3.out (Nat.le_refl _))).mono ?_
    rintro e w4 ⟨rfl, hb4⟩
    have HB4 := Lib.hid (below_then HB3.out hb4)
    obtain ⟨mb, hmb⟩ : ∃ mb, maySL l = mb := ⟨_, rfl⟩
    rw [hmb]
    have HMB := Lib.hid hmb
    clear hb4 hmb
    go_wp2_with fail
    refine (rMay_any _ l w4 (HR.out.below HB4.out (Nat.le_refl _))).mono ?_
    rintro e w5 ⟨rfl, hb5⟩
    have HB5 := Lib.hid (below_then HB4.out hb5)
    rw [HMB.out]
    clear hb5
    go_wp2_with fail
    go_ret
    exact ⟨rfl, HB5.out⟩

end Go.Proofs.Ytjjpoialoabfoaa
