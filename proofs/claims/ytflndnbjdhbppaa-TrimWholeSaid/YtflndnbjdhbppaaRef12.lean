/- sutureref12: may, May, Fair, Find: their contracts. -/
import Derived.Test.YtflndnbjdhbppaaNodesR
namespace Go.Proofs.Ytflndnbjdhbppaa
open Go Go.RowKit

set_option maxHeartbeats 2000000 in
theorem refmay_any (a b c d : Int) (w : World) :
    Calls Try.prog 80 #[.agg #[.int .i64 a, .int .i64 b, .int .i64 c, .int .i64 d]] w fun e w' => e = .returned (.bool (mayN (a, b, c, d))) ∧ Below w.heap.size w w' := by
  have key : ∀ r : Bool, mayN (a, b, c, d) = r → Calls Try.prog 80 #[.agg #[.int .i64 a, .int .i64 b, .int .i64 c, .int .i64 d]] w fun e w' => e = .returned (.bool r) ∧ Below w.heap.size w w' := by
    intro r hr
    have hN : mayN (a, b, c, d) = decide ((1 ≤ a ∧ a ≤ 16) ∧ (1 ≤ b ∧ b ≤ 8) ∧ (1 ≤ c ∧ c ≤ 16) ∧ (0 ≤ d ∧ d ≤ 2)) := rfl
    rw [hN] at hr
    by_cases h1 : 1 ≤ a
    · by_cases h2 : a ≤ 16
      · by_cases h3 : 1 ≤ b
        · by_cases h4 : b ≤ 8
          · by_cases h5 : 1 ≤ c
            · by_cases h6 : c ≤ 16
              · by_cases h7 : 0 ≤ d
                · by_cases h8 : d ≤ 2
                  · obtain rfl : r = true := by rw [← hr]; exact decide_eq_true ⟨⟨h1, h2⟩, ⟨h3, h4⟩, ⟨h5, h6⟩, h7, h8⟩
                    clear hr hN
                    go_enter Try.func80, Try.ntmps80
                    go_wp2
                    go_ret
                    exact ⟨rfl, below_one _ _⟩
                  · obtain rfl : r = false := by rw [← hr]; exact decide_eq_false (fun h => by omega)
                    clear hr hN
                    go_enter Try.func80, Try.ntmps80
                    go_wp2
                    go_ret
                    exact ⟨rfl, below_one _ _⟩
                · obtain rfl : r = false := by rw [← hr]; exact decide_eq_false (fun h => by omega)
                  clear hr hN
                  go_enter Try.func80, Try.ntmps80
                  go_wp2
                  go_ret
                  exact ⟨rfl, below_one _ _⟩
              · obtain rfl : r = false := by rw [← hr]; exact decide_eq_false (fun h => by omega)
                clear hr hN
                go_enter Try.func80, Try.ntmps80
                go_wp2
                go_ret
                exact ⟨rfl, below_one _ _⟩
            · obtain rfl : r = false := by rw [← hr]; exact decide_eq_false (fun h => by omega)
              clear hr hN
              go_enter Try.func80, Try.ntmps80
              go_wp2
              go_ret
              exact ⟨rfl, below_one _ _⟩
          · obtain rfl : r = false := by rw [← hr]; exact decide_eq_false (fun h => by omega)
            clear hr hN
            go_enter Try.func80, Try.ntmps80
            go_wp2
            go_ret
            exact ⟨rfl, below_one _ _⟩
        · obtain rfl : r = false := by rw [← hr]; exact decide_eq_false (fun h => by omega)
          clear hr hN
          go_enter Try.func80, Try.ntmps80
          go_wp2
          go_ret
          exact ⟨rfl, below_one _ _⟩
      · obtain rfl : r = false := by rw [← hr]; exact decide_eq_false (fun h => by omega)
        clear hr hN
        go_enter Try.func80, Try.ntmps80
        go_wp2
        go_ret
        exact ⟨rfl, below_one _ _⟩
    · obtain rfl : r = false := by rw [← hr]; exact decide_eq_false (fun h => by omega)
      clear hr hN
      go_enter Try.func80, Try.ntmps80
      go_wp2
      go_ret
      exact ⟨rfl, below_one _ _⟩
  exact key _ rfl

set_option maxHeartbeats 2000000 in
theorem refMay_any (v : Value) (l : List Nq) (w : World) (hR : Rd w 4 v l.length (l.flatMap noC)) :
    Calls Try.prog 78 #[v] w fun e w' => e = .returned (.bool (mayL l)) ∧ Below w.heap.size w w' := by
  obtain ⟨A, cap, hv, hcap, hnc⟩ := hR.shape
  subst hv
  obtain ⟨n, hn⟩ : ∃ n, l.length = n := ⟨_, rfl⟩
  have HR := Lib.hid hR
  have HN := Lib.hid hn
  rw [hn] at hnc ⊢
  clear hR hn
  have hnm : n ≤ 9223372036854775807 := by omega
  go_enter Try.func78, Try.ntmps78
  go_wp2_with fail
  go_loopw [3] (fun s3 wr => ∃ (k : Nat), s3 = .int .i64 k ∧ k ≤ n ∧ (∀ j, j < k → mayP (at_ l j) ∧ (0 < j → (at_ l (j - 1)).1 < (at_ l j).1)) ∧ Below w.heap.size w wr) (fun s3 _ => n - (intOf s3).toNat)
  case atStart => exact ⟨0, rfl, by omega, fun j hj => absurd hj (by omega), Below.refl _ _⟩
  case round =>
    obtain ⟨k, rfl, hk, hall, hbel⟩ := hrel
    have HA := Lib.hid hall
    have HB := Lib.hid hbel
    clear hall hbel
    by_cases hlt : k < n
    · have hltI : (k : Int) < (n : Int) := by omega
      have hR1 := HR.out.below HB.out (Nat.le_refl _)
      rw [HN.out] at hR1
      obtain ⟨b, off, hA, hbl⟩ := hR1.addr (by omega)
      subst hA
      obtain ⟨c0, c1, c2, c3⟩ := rd_no hR1 k (by rw [HN.out]; exact hlt)
      obtain ⟨x, hx⟩ : ∃ x, at_ l k = x := ⟨_, rfl⟩
      rw [hx] at c0 c1 c2 c3
      obtain ⟨x0, x1, x2, x3⟩ := x
      simp only at c0 c1 c2 c3
      have HX := Lib.hid hx
      have HR1 := Lib.hid hR1
      clear hx hR1
      go_wp2_with (go_at_call 80; refine (refmay_any _ _ _ _ _).mono ?_; rintro e w1 ⟨rfl, hb1⟩)
      have HB1 := Lib.hid (below_then HB.out hb1)
      have hR2 := HR1.out.below hb1 (Nat.le_refl _)
      obtain ⟨y0, _, _, _⟩ := rd_no hR2 k (by rw [HN.out]; exact hlt)
      rw [HX.out] at y0
      simp only at y0
      clear hb1 c0 c1 c2 c3
      obtain ⟨r, hr⟩ : ∃ r, mayN (x0, x1, x2, x3) = r := ⟨_, rfl⟩
      rw [hr]
      have HM := Lib.hid hr
      clear hr
      cases r with
      | false =>
        clear hR2
        go_wp2_with fail
        go_quiet (fail)
        go_wp2_with fail
        go_ret
        refine ⟨?_, below_drewN HB1.out _⟩
        rw [may_bad (l := l) (k := k) (by rw [HN.out]; exact hlt)]; rfl
        intro ⟨g1, g2, g3⟩
        rw [HX.out] at g1
        exact absurd g1 (of_decide_eq_false HM.out)
      | true =>
        by_cases hk0 : 0 < k
        · have hk0I : (0 : Int) < (k : Int) := by omega
          obtain ⟨z0, _, _, _⟩ := rd_no hR2 (k - 1) (by rw [HN.out]; omega)
          obtain ⟨z, hz⟩ : ∃ z, (at_ l (k - 1)).1 = z := ⟨_, rfl⟩
          rw [hz] at z0
          have HZ := Lib.hid hz
          clear hz hR2
          obtain ⟨j, rfl⟩ : ∃ j, k = j + 1 := ⟨k - 1, by omega⟩
          simp only [Nat.add_sub_cancel] at z0 HZ
          by_cases hle : x0 ≤ z
          · go_wp2_with fail
            go_quiet (fail)
            go_wp2_with fail
            go_ret
            refine ⟨?_, below_drewN HB1.out _⟩
            rw [may_bad (l := l) (k := j + 1) (by rw [HN.out]; exact hlt)]; rfl
            intro ⟨g1, g2, g3⟩
            have := g2 hk0
            rw [Nat.add_sub_cancel, HX.out, HZ.out] at this
            simp only at this
            omega
          · have hd : decide (x0 ≤ z) = false := decide_eq_false hle
            go_wp2_with fail
            go_quiet (fail)
            go_wp2_with fail
            go_roundw
            case rel =>
              refine ⟨j + 1 + 1, by go_num, by omega, fun i hi => ?_, below_drewN HB1.out _⟩
              by_cases e : i = j + 1
              · subst e
                refine ⟨by rw [HX.out]; exact of_decide_eq_true HM.out, fun h0 => ?_⟩
                rw [Nat.add_sub_cancel, HX.out, HZ.out]
                simp only
                omega
              · exact HA.out i (by omega)
            case measure => simp [intOf]; omega
        · obtain rfl : k = 0 := by omega
          clear hR2
          go_wp2_with fail
          go_quiet (fail)
          go_wp2_with fail
          go_roundw
          case rel =>
            refine ⟨1, by go_num, by omega, fun i hi => ?_, below_drewN HB1.out _⟩
            obtain rfl : i = 0 := by omega
            exact ⟨by rw [HX.out]; exact of_decide_eq_true HM.out, fun h0 => absurd h0 (by omega)⟩
          case measure => simp [intOf]; omega
    · obtain rfl : k = n := by omega
      go_wp2_with fail
      go_ret
      exact ⟨by rw [may_good (l := l) (by rw [HN.out]; exact HA.out)]; rfl, HB.out⟩

end Go.Proofs.Ytflndnbjdhbppaa
