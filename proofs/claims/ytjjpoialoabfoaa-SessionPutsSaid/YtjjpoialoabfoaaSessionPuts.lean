/- SessionPuts: the walk. -/
import Derived.Test.YtjjpoialoabfoaaAwake09
import Derived.Test.YtjjpoialoabfoaaRef09P
import Derived.Test.YtjjpoialoabfoaaSameSe
import Derived.Test.YtjjpoialoabfoaaSessL
namespace Go.Proofs.Ytjjpoialoabfoaa
open Go Go.RowKit

set_option maxHeartbeats 4000000 in
set_option maxRecDepth 100000 in
theorem sessionPuts_walk (v : Value) (l : List Se) (c q a : Int) (W : World) (hR : Rd W 3 v l.length (l.flatMap seC)) :
    Calls Try.prog 4 #[v, .int .i64 c, .int .i64 q, .int .i64 a] W fun e w' => e = .returned (.bool true) ∧ Below W.heap.size W w' := by
  obtain ⟨A, cap, hv, hcap, hnc⟩ := hR.shape
  obtain ⟨n, hn⟩ : ∃ n, l.length = n := ⟨_, rfl⟩
  have HR := Lib.hid hR
  have HN := Lib.hid hn
  rw [hn] at hv hnc
  subst hv
  clear hR hn
  go_enter Try.func4, Try.ntmps4
  go_wp2_with fail
  refine (awake09 _).mono ?_
  rintro e w1 ⟨rfl, hb1⟩
  have HB1 := Lib.hid hb1
  clear hb1
  by_cases h1 : (100 : Int) < (n : Int)
  · go_wp2_with fail
    go_ret
    exact ⟨rfl, HB1.out⟩
  · have HL := Lib.hid (show l.length ≤ 100 by have := HN.out; omega)
    go_wp2_with fail
    refine (put_any _ l c q a w1 (by have := HL.out; omega) (HR.out.below HB1.out (Nat.le_refl _))).mono ?_
    rintro e w2 ⟨v2, rfl, ho2, hb2⟩
    have HB2 := Lib.hid (below_then HB1.out hb2)
    have HO2 := Lib.hid ho2
    clear hb2 ho2
    simp only
    obtain ⟨e0, he0⟩ : ∃ e0, putSE l c q = e0 := ⟨_, rfl⟩
    rw [he0]
    have HE := Lib.hid he0
    clear he0
    go_wp2_with fail
    refine (rput_any _ l c q a w2 (by have := HL.out; omega) (HR.out.below HB2.out (Nat.le_refl _))).mono ?_
    rintro e w3 ⟨v3, rfl, ho3, hb3⟩
    have HB3 := Lib.hid (below_then HB2.out hb3)
    have HO3 := Lib.hid ho3
    have HO23 := Lib.hid (HO2.out.below hb3 (Nat.le_refl _))
    clear hb3 ho3
    simp only
    rw [HE.out]
    go_wp2_with fail
    refine (same_se v2 v3 _ _ w3 HO23.out.rd HO3.out.rd).mono ?_
    rintro e w4 ⟨rfl, hb4⟩
    rw [decide_eq_true rfl]
    have HB4 := Lib.hid (below_then HB3.out hb4)
    have HR4 := Lib.hid (HO23.out.rd.below hb4 (Nat.le_refl _))
    clear hb4
    by_cases hz : e0 = 0
    · subst hz
      go_wp2_with fail
      refine (sMay_any _ _ w4 HR4.out).mono ?_
      rintro e w5 ⟨rfl, hb5⟩
      have HB5 := Lib.hid (below_then HB4.out hb5)
      have hmm : maySL (putO l (c, q, a)) = true := by
        obtain ⟨g1, g2, g3, g4⟩ := putSE_ok HE.out
        unfold putO
        rw [if_pos HE.out]
        exact decide_eq_true (putS_may g1 g2 g4)
      rw [hmm]
      clear hb5 hmm
      go_wp2_with fail
      go_ret
      exact ⟨rfl, HB5.out⟩
    · have hz' : (e0 != 0) = true := by simpa using hz
      go_wp2_with fail
      go_ret
      exact ⟨rfl, HB4.out⟩

end Go.Proofs.Ytjjpoialoabfoaa
