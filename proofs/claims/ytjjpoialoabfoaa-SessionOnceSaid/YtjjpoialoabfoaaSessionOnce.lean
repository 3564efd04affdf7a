/- SessionOnce: the walk. -/
import Derived.Test.YtjjpoialoabfoaaAwake09
import Derived.Test.YtjjpoialoabfoaaRef09P
import Derived.Test.YtjjpoialoabfoaaSessL
namespace Go.Proofs.Ytjjpoialoabfoaa
open Go Go.RowKit

set_option maxHeartbeats 4000000 in
set_option maxRecDepth 100000 in
theorem sessionOnce_walk (v : Value) (l : List Se) (c q a c2 q2 : Int) (W : World) (hR : Rd W 3 v l.length (l.flatMap seC)) :
    Calls Try.prog 5 #[v, .int .i64 c, .int .i64 q, .int .i64 a, .int .i64 c2, .int .i64 q2] W fun e w' => e = .returned (.bool true) ∧ Below W.heap.size W w' := by
  obtain ⟨A, cap, hv, hcap, hnc⟩ := hR.shape
  obtain ⟨n, hn⟩ : ∃ n, l.length = n := ⟨_, rfl⟩
  have HR := Lib.hid hR
  have HN := Lib.hid hn
  rw [hn] at hv hnc
  subst hv
  clear hR hn
  go_enter Try.func5, Try.ntmps5
  go_wp2_with fail
  refine (awake09 _).mono ?_
  rintro e w1 ⟨rfl, hb1⟩
  have HB1 := Lib.hid hb1
  clear hb1
  by_cases h1 : (100 : Int) < (n : Int)
  · go_wp2_with fail
    go_ret
    exact ⟨rfl, HB1.out⟩
  · have HL := Lib.hid (show l.length ≤ 100 by have := HN.out; omega)
    go_wp2_with fail
    refine (put_any _ l c q a w1 (by have := HL.out; omega) (HR.out.below HB1.out (Nat.le_refl _))).mono ?_
    rintro e w2 ⟨v2, rfl, ho2, hb2⟩
    have HB2 := Lib.hid (below_then HB1.out hb2)
    obtain ⟨A2, cap2, hv2⟩ := ho2.slice_
    subst hv2
    have HO2 := Lib.hid ho2
    clear hb2 ho2
    simp only
    obtain ⟨e0, he0⟩ : ∃ e0, putSE l c q = e0 := ⟨_, rfl⟩
    rw [he0]
    have HE := Lib.hid he0
    clear he0
    by_cases hz : e0 = 0
    · subst hz
      obtain ⟨g1, g2, g3, g4⟩ := putSE_ok HE.out
      have hpo : putO l (c, q, a) = putS l (c, q, a) := by unfold putO; rw [if_pos (show putSE l c q = 0 from HE.out)]
      rw [hpo] at HO2 ⊢
      have hml : (putS l (c, q, a)).length ≤ 101 := by rw [putS_len g1.ris]; have := HL.out; split <;> omega
      have hmay : MaySL (putS l (c, q, a)) := putS_may g1 g2 g4
      have hses : sesS (putS l (c, q, a)) c = (c, q, a) := by rw [sesS_put g1.ris, if_pos rfl]
      have k1 : lookS (putS l (c, q, a)) c q = (a, true, 0) := by
        rw [lookS_may hmay, if_neg (by rw [show mayS (c, q, 0) = true from decide_eq_true g2]; simp), hses, if_neg (by show ¬ q < q; omega), if_pos rfl]
      have k2 : putSE (putS l (c, q, a)) c q = 6 := by
        rw [putSE_of hmay g2, hses, if_neg (by show ¬ q < q; omega), if_pos rfl]
      have k3 : ∃ h : Int, lookS (putS l (c, q, a)) c (q + 1) = (0, false, h) ∧ (h = 0 ∨ q = 1099511627776) := by
        rw [lookS_may hmay, hses]
        by_cases hq : q = 1099511627776
        · refine ⟨1, ?_, .inr hq⟩
          rw [if_pos (show mayS (c, q + 1, 0) = false from decide_eq_false (fun h => by have := h.2.2; simp only at this; omega))]
        · refine ⟨0, ?_, .inl rfl⟩
          have hm : mayS (c, q + 1, 0) = true := decide_eq_true ⟨g2.1, by have := g2.2; simp only at this; show 1 ≤ q + 1; omega, by have := g2.2; simp only at this; show q + 1 ≤ 1099511627776; omega⟩
          rw [if_neg (by rw [hm]; simp), if_neg (by show ¬ q + 1 < q; omega), if_neg (by show ¬ q + 1 = q; omega), if_neg (by show ¬ q + 1 > q + 1; omega)]
      have k4 : c2 ≠ c → lookS (putS l (c, q, a)) c2 q2 = lookS l c2 q2 := fun hne => by
        rw [lookS_may hmay, lookS_may g1, sesS_put g1.ris, if_neg (show ¬ c2 = (c, q, a).1 from hne)]
      have hqb := g2.2
      simp only at hqb
      obtain ⟨m, hm⟩ : ∃ m, putS l (c, q, a) = m := ⟨_, rfl⟩
      rw [hm] at HO2 hml k1 k2 k3 k4 ⊢
      obtain ⟨h3, k3, k3'⟩ := k3
      have K1 := Lib.hid k1
      have K2 := Lib.hid k2
      have K3 := Lib.hid k3
      have K4 := Lib.hid k4
      clear k1 k2 k3 k4 hm hmay hses hpo g1 g2 g3 g4
      go_wp2_with fail
      refine (look_any _ m c q w2 (by omega) HO2.out.rd).mono ?_
      rintro e w3 ⟨rfl, hb3⟩
      have HB3 := Lib.hid (below_then HB2.out hb3)
      have HR3 := Lib.hid (HO2.out.rd.below hb3 (Nat.le_refl _))
      rw [K1.out]
      clear hb3
      simp only
      go_wp2_with fail
      refine (put_any _ m c q _ w3 (by omega) HR3.out).mono ?_
      rintro e w4 ⟨v4, rfl, ho4, hb4⟩
      simp only
      rw [K2.out]
      have HB4 := Lib.hid (below_then HB3.out hb4)
      have HR4 := Lib.hid (HR3.out.below hb4 (Nat.le_refl _))
      clear hb4 ho4
      go_wp2_with fail
      refine (look_any _ m c (q + 1) w4 (by omega) HR4.out).mono ?_
      rintro e w5 ⟨rfl, hb5⟩
      have HB5 := Lib.hid (below_then HB4.out hb5)
      have HR5 := Lib.hid (HR4.out.below hb5 (Nat.le_refl _))
      rw [K3.out]
      clear hb5
      simp only
      go_wp2_with fail
      refine (look_any _ l c2 q2 w5 (by have := HL.out; omega) (HR.out.below HB5.out (Nat.le_refl _))).mono ?_
      rintro e w6 ⟨rfl, hb6⟩
      have HB6 := Lib.hid (below_then HB5.out hb6)
      have HR6 := Lib.hid (HR5.out.below hb6 (Nat.le_refl _))
      obtain ⟨a0, t0, e0, hlk⟩ : ∃ a0 t0 e0, lookS l c2 q2 = (a0, t0, e0) := ⟨_, _, _, rfl⟩
      rw [hlk]
      have HLK := Lib.hid hlk
      clear hb6 hlk
      simp only
      go_wp2_with fail
      refine (look_any _ m c2 q2 w6 (by omega) HR6.out).mono ?_
      rintro e w7 ⟨rfl, hb7⟩
      have HB7 := Lib.hid (below_then HB6.out hb7)
      clear hb7
      by_cases hcc : c2 = c
      · subst hcc
        rcases k3' with hh | hh
        · subst hh
          go_wp2_with fail
          go_ret
          exact ⟨rfl, HB7.out⟩
        · by_cases hh3 : h3 = 0
          · subst hh3
            go_wp2_with fail
            go_ret
            exact ⟨rfl, HB7.out⟩
          · have hh3' : (h3 == 0) = false := by simpa using hh3
            subst hh
            go_wp2_with fail
            go_ret
            exact ⟨rfl, HB7.out⟩
      · have hcc' : (c2 == c) = false := by simpa using hcc
        rw [K4.out hcc, HLK.out]
        simp only
        rcases k3' with hh | hh
        · subst hh
          go_wp2_with fail
          go_ret
          exact ⟨rfl, HB7.out⟩
        · by_cases hh3 : h3 = 0
          · subst hh3
            go_wp2_with fail
            go_ret
            exact ⟨rfl, HB7.out⟩
          · have hh3' : (h3 == 0) = false := by simpa using hh3
            subst hh
            go_wp2_with fail
            go_ret
            exact ⟨rfl, HB7.out⟩
    · have hz' : (e0 != 0) = true := by simpa using hz
      have hp0 : putO l (c, q, a) = [] := by unfold putO; rw [if_neg (show ¬ putSE l c q = 0 by rw [HE.out]; exact hz)]
      rw [hp0] at HO2 ⊢
      simp only [List.length_nil] at HO2 ⊢
      go_wp2_with fail
      go_ret
      exact ⟨rfl, HB2.out⟩

end Go.Proofs.Ytjjpoialoabfoaa
