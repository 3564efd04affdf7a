/- suturelaw16: three, awake (the chapter's examples hold), Few. -/
import Derived.Test.YthmifcbhbcjeiaaPlaceT
import Derived.Test.YthmifcbhbcjeiaaAwake12
namespace Go.Proofs.Ythmifcbhbcjeiaa
open Go Go.RowKit

def wake16 : List Nq := [(1, 1, 4, 0), (2, 1, 4, 0), (3, 2, 4, 0)]
theorem wake16_a : tgtL wake16 [1, 2, 3] [] [1] = some (3, 2, 4, 0) := by decide
theorem wake16_b : tgtL wake16 [1, 2, 3] [] [1, 3] = some (2, 1, 4, 0) := by decide
theorem wake16_c : tgtL wake16 [1, 2, 3] [] [1, 2, 3] = none := by decide
theorem wake16_w : okW wake16 := by
  intro x hx
  simp [wake16] at hx
  rcases hx with rfl | rfl | rfl <;> decide
theorem posD_nil : posD [] := fun _ h => by cases h

theorem three_any (w : World) : Calls Try.prog 47 #[] w fun e w' => e = .returned (.slice (some ⟨w.heap.size, 0, none⟩) 3 3) ∧ Rd w' 4 (.slice (some ⟨w.heap.size, 0, none⟩) 3 3) 3 (wake16.flatMap noC) ∧ Below w.heap.size w w' := by
  have hb0 := below_one w (.cells (wake16.flatMap noC).toArray 28)
  have hx0 := Bx.new w 28 (wake16.flatMap noC)
  have hR0 := rd_row (size := 4) (n := 3) hx0 rfl (by omega)
  have HB0 := Lib.hid hb0
  have HR0 := Lib.hid hR0
  clear hb0 hx0 hR0
  go_enter Try.func47, Try.ntmps47
  go_wp2_with fail
  go_ret
  exact ⟨rfl, HR0.out, HB0.out⟩

set_option maxHeartbeats 1000000 in
theorem awake16 (w : World) : Calls Try.prog 26 #[] w fun e w' => e = .returned (.bool true) ∧ Below w.heap.size w w' := by
  go_enter Try.func26, Try.ntmps26
  go_wp2_with fail
  have HA0 : Hid (Rd (w.alloc (.cells #[.int .i64 1, .int .i64 2, .int .i64 3] 3)) 1 (.slice (some ⟨w.heap.size, 0, none⟩) 3 3) 3 (([1, 2, 3] : List Int).flatMap inC)) := rd_row (size := 1) (n := 3) (Bx.new w 3 (([1, 2, 3] : List Int).flatMap inC)) rfl (by omega)
  have HB0 : Hid (Below w.heap.size w (w.alloc (.cells #[.int .i64 1, .int .i64 2, .int .i64 3] 3))) := below_one _ _
  generalize (w.alloc (.cells #[.int .i64 1, .int .i64 2, .int .i64 3] 3)) = w0 at *
  refine (three_any w0).mono ?_
  rintro e w1 ⟨rfl, hR1, hb1⟩
  have HB1 := Lib.hid (below_then HB0.out hb1)
  have HR1 := Lib.hid hR1
  have HA1 := Lib.hid (HA0.out.below hb1 (Nat.le_refl _))
  clear hR1 hb1 HB0 HA0
  generalize w0.heap.size = g1 at *
  go_wp2_with fail
  have hb2 := below_one w1 (.cells (([1] : List Int).flatMap inC).toArray 3)
  have hx2 := Bx.new w1 3 (([1] : List Int).flatMap inC)
  refine (target_any _ _ _ _ wake16 [1, 2, 3] [] [1] _ (by decide) (by decide) wake16_w posD_nil (HR1.out.below hb2 (Nat.le_refl _)) (HA1.out.below hb2 (Nat.le_refl _)) (Rd.nil_ _ _) (rd_row (n := 1) hx2 rfl (by omega))).mono ?_
  rintro e w2 ⟨rfl, hb3⟩
  rw [wake16_a]
  simp only [idO, Option.map_some, Option.getD_some, Option.isSome_some]
  have HB2 := Lib.hid (below_then (below_then HB1.out hb2) hb3)
  have HA2 := Lib.hid ((HA1.out.below hb2 (Nat.le_refl _)).below hb3 (Nat.le_refl _))
  clear hb2 hx2 hb3 HB1 HR1 HA1
  go_wp2_with fail
  refine (three_any w2).mono ?_
  rintro e w3 ⟨rfl, hR3, hb3⟩
  have HB3 := Lib.hid (below_then HB2.out hb3)
  have HR3 := Lib.hid hR3
  have HA3 := Lib.hid (HA2.out.below hb3 (Nat.le_refl _))
  clear hR3 hb3 HB2 HA2
  generalize w2.heap.size = g2 at *
  go_wp2_with fail
  have hb4 := below_one w3 (.cells (([1, 3] : List Int).flatMap inC).toArray 3)
  have hx4 := Bx.new w3 3 (([1, 3] : List Int).flatMap inC)
  refine (target_any _ _ _ _ wake16 [1, 2, 3] [] [1, 3] _ (by decide) (by decide) wake16_w posD_nil (HR3.out.below hb4 (Nat.le_refl _)) (HA3.out.below hb4 (Nat.le_refl _)) (Rd.nil_ _ _) (rd_row (n := 2) hx4 rfl (by omega))).mono ?_
  rintro e w4 ⟨rfl, hb5⟩
  rw [wake16_b]
  simp only [idO, Option.map_some, Option.getD_some, Option.isSome_some]
  have HB4 := Lib.hid (below_then (below_then HB3.out hb4) hb5)
  have HA4 := Lib.hid ((HA3.out.below hb4 (Nat.le_refl _)).below hb5 (Nat.le_refl _))
  clear hb4 hx4 hb5 HB3 HR3 HA3
  go_wp2_with fail
  refine (three_any w4).mono ?_
  rintro e w5 ⟨rfl, hR5, hb5⟩
  have HB5 := Lib.hid (below_then HB4.out hb5)
  have HR5 := Lib.hid hR5
  have HA5 := Lib.hid (HA4.out.below hb5 (Nat.le_refl _))
  clear hR5 hb5 HB4 HA4
  generalize w4.heap.size = g3 at *
  go_wp2_with fail
  refine (target_any _ _ _ _ wake16 [1, 2, 3] [] [1, 2, 3] _ (by decide) (by decide) wake16_w posD_nil HR5.out HA5.out (Rd.nil_ _ _) HA5.out).mono ?_
  rintro e w6 ⟨rfl, hb6⟩
  rw [wake16_c]
  simp only [idO, Option.map_none, Option.getD_none, Option.isSome_none]
  have HB6 := Lib.hid (below_then HB5.out hb6)
  clear hb6
  go_wp2_with fail
  go_ret
  exact ⟨rfl, HB6.out⟩

def FewE (n1 n2 n3 n4 : Nat) (ld : List Ld) (w : World) (e : Ending) (w' : World) : Prop := ∃ b, e = .returned (.bool b) ∧ (b = true → (n1 ≤ 40 ∧ n2 ≤ 40 ∧ n3 ≤ 40 ∧ n4 ≤ 40) ∧ ∀ y ∈ ld, 0 ≤ y.2 ∧ y.2 ≤ 1099511627776) ∧ w = w'

set_option maxHeartbeats 1000000 in
theorem few16 (v va vd vh : Value) (l : List Nq) (al : List Int) (ld : List Ld) (ho : List Int) (w : World) (hR : Rd w 4 v l.length (l.flatMap noC)) (hA : Rd w 1 va al.length (al.flatMap inC)) (hD : Rd w 2 vd ld.length (ld.flatMap ldC)) (hH : Rd w 1 vh ho.length (ho.flatMap inC)) :
    Calls Try.prog 27 #[v, va, vd, vh] w (FewE l.length al.length ld.length ho.length ld w) := by
  obtain ⟨A, cap, hv, _, _⟩ := hR.shape
  obtain ⟨Aa, capa, hva, _, _⟩ := hA.shape
  obtain ⟨Ad, capd, hvd, hcd, hnd⟩ := hD.shape
  obtain ⟨Ah, caph, hvh, _, _⟩ := hH.shape
  subst hv hva hvh
  obtain ⟨n, hn⟩ : ∃ n, ld.length = n := ⟨_, rfl⟩
  have HN := Lib.hid hn
  have HD := Lib.hid hD
  rw [hn] at hvd hnd
  subst hvd
  rw [hn]
  clear hR hA hD hH hn
  generalize l.length = n1
  generalize al.length = n2
  generalize ho.length = n4
  by_cases h1 : n1 ≤ 40
  · have h1' : ¬ ((n1 : Int) > 40) := by omega
    by_cases h2 : n2 ≤ 40
    · have h2' : ¬ ((n2 : Int) > 40) := by omega
      by_cases h3 : n ≤ 40
      · have h3' : ¬ ((n : Int) > 40) := by omega
        by_cases h4 : n4 ≤ 40
        · have h4' : ¬ ((n4 : Int) > 40) := by omega
          go_enter Try.func27, Try.ntmps27
          go_wp2
          go_loop [9] (fun i => ∃ k : Nat, k ≤ n ∧ i = .int .i64 k ∧ ∀ j, j < k → 0 ≤ (at_ ld j).2 ∧ (at_ ld j).2 ≤ 1099511627776) (fun i => n - (intOf i).toNat)
          case atStart => exact ⟨0, Nat.zero_le _, rfl, fun j hj => absurd hj (by omega)⟩
          case round =>
            obtain ⟨k, hk, rfl, hall⟩ := hrel
            have HA := Lib.hid hall
            clear hall
            by_cases hlt : k < n
            · have hltI : (k : Int) < (n : Int) := by omega
              have hR1 := HD.out
              rw [HN.out] at hR1
              obtain ⟨b, off, hAd, hbl⟩ := hR1.addr (by omega)
              subst hAd
              obtain ⟨c0, c1⟩ := rd_ld hR1 k (by rw [HN.out]; exact hlt)
              obtain ⟨x, hx⟩ : ∃ x, (at_ ld k).2 = x := ⟨_, rfl⟩
              rw [hx] at c1
              have HX := Lib.hid hx
              clear hx hR1 c0
              by_cases hx0 : x < 0
              · go_wp2
                go_ret
                exact ⟨_, rfl, (fun h => by cases h), rfl⟩
              · by_cases hx1 : x > 1099511627776
                · go_wp2
                  go_ret
                  exact ⟨_, rfl, (fun h => by cases h), rfl⟩
                · go_wp2
                  go_round
                  case rel => exact ⟨k + 1, by omega, by go_num, fun j hj => by
                    by_cases e : j = k
                    · subst e; rw [HX.out]; omega
                    · exact HA.out j (by omega)⟩
                  case measure => simp [intOf]; omega
            · obtain rfl : k = n := by omega
              go_wp2
              go_ret
              exact ⟨_, rfl, fun _ => ⟨⟨h1, h2, h3, h4⟩, fun y hy => by
                obtain ⟨j, hj, rfl⟩ := mem_at hy
                exact HA.out j (by rw [← HN.out]; exact hj)⟩, rfl⟩
        · have h4' : ((n4 : Int) > 40) := by omega
          go_enter Try.func27, Try.ntmps27
          go_wp2
          go_ret
          exact ⟨_, rfl, (fun h => by cases h), rfl⟩
      · have h3' : ((n : Int) > 40) := by omega
        go_enter Try.func27, Try.ntmps27
        go_wp2
        go_ret
        exact ⟨_, rfl, (fun h => by cases h), rfl⟩
    · have h2' : ((n2 : Int) > 40) := by omega
      go_enter Try.func27, Try.ntmps27
      go_wp2
      go_ret
      exact ⟨_, rfl, (fun h => by cases h), rfl⟩
  · have h1' : ((n1 : Int) > 40) := by omega
    go_enter Try.func27, Try.ntmps27
    go_wp2
    go_ret
    exact ⟨_, rfl, (fun h => by cases h), rfl⟩

end Go.Proofs.Ythmifcbhbcjeiaa
