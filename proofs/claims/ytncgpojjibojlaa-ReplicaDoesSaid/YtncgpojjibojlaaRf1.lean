/- sutureref10.named, May: their contracts. -/
import Derived.Test.YtncgpojjibojlaaReN
import Derived.Test.YtncgpojjibojlaaAppRe
namespace Go.Proofs.Ytncgpojjibojlaa
open Go Go.RowKit

theorem rnamed_any (c v : Int) (w : World) :
    Calls Try.prog 86 #[.int .i64 c, .int .i64 v] w fun e w' => e = .returned (.bool (namedB c v)) ∧ w = w' := by
  by_cases h1 : c ≥ 1
  · by_cases h2 : c ≤ 1048576
    · by_cases h3 : v ≥ 1
      · by_cases h4 : v ≤ 1073741824
        · go_enter Try.func86, Try.ntmps86
          go_wp2
          go_ret
          exact ⟨by rw [show namedB c v = true from decide_eq_true ⟨⟨h1, h2⟩, h3, h4⟩]; rfl, rfl⟩
        · go_enter Try.func86, Try.ntmps86
          go_wp2
          go_ret
          exact ⟨by rw [show namedB c v = false from decide_eq_false (fun h => by omega)]; rfl, rfl⟩
      · go_enter Try.func86, Try.ntmps86
        go_wp2
        go_ret
        exact ⟨by rw [show namedB c v = false from decide_eq_false (fun h => by omega)]; rfl, rfl⟩
    · go_enter Try.func86, Try.ntmps86
      go_wp2
      go_ret
      exact ⟨by rw [show namedB c v = false from decide_eq_false (fun h => by omega)]; rfl, rfl⟩
  · go_enter Try.func86, Try.ntmps86
    go_wp2
    go_ret
    exact ⟨by rw [show namedB c v = false from decide_eq_false (fun h => by omega)]; rfl, rfl⟩

theorem okP_ref (y0 y1 y2 : Int) (y3 y4 : Bool) (x0 x1 x2 : Int) (x3 x4 : Bool) : okP (y0, y1, y2, y3, y4) (x0, x1, x2, x3, x4) ↔ ¬ (x0 < y0 ∨ (x0 = y0 ∧ (y3 = true ∨ x3 = false ∨ x1 ≤ y1))) := by
  unfold okP kR
  have h1 := flI_le y3
  have h2 := flI_le x3
  simp only
  cases y3 <;> cases x3 <;> simp [flI] <;> omega

set_option maxHeartbeats 4000000 in
set_option maxRecDepth 100000 in
theorem rmay_any (v : Value) (l : List Re) (w : World) (hR : Rd w 5 v l.length (l.flatMap reC)) :
    Calls Try.prog 43 #[v] w fun e w' => e = .returned (.bool (mayR l)) ∧ Below w.heap.size w w' := by
  obtain ⟨A, cap, hv, hcap, hnc⟩ := hR.shape
  subst hv
  obtain ⟨n, hn⟩ : ∃ n, l.length = n := ⟨_, rfl⟩
  have HR := Lib.hid hR
  have HN := Lib.hid hn
  rw [hn] at hnc ⊢
  clear hR hn
  have hnm : n ≤ 9223372036854775807 := by omega
  go_enter Try.func43, Try.ntmps43
  go_wp2_with fail
  go_loopw [3] (fun s3 wr => ∃ (k : Nat), s3 = .int .i64 k ∧ k ≤ n ∧ (∀ j, j < k → okR (at_ l j) = true ∧ (0 < j → okP (at_ l (j - 1)) (at_ l j))) ∧ Below w.heap.size w wr) (fun s3 _ => n - (intOf s3).toNat)
  case atStart => exact ⟨0, rfl, by omega, fun j hj => absurd hj (by omega), Below.refl _ _⟩
  case round =>
    obtain ⟨k, rfl, hk, hall, hbel⟩ := hrel
    have HAl := Lib.hid hall
    have HB := Lib.hid hbel
    clear hall hbel
    by_cases hlt : k < n
    · have hltI : (k : Int) < (n : Int) := by omega
      have hR1 := HR.out.below HB.out (Nat.le_refl _)
      rw [HN.out] at hR1
      obtain ⟨b, off, hA, hbl⟩ := hR1.addr (by omega)
      subst hA
      have HR1 := Lib.hid hR1
      obtain ⟨c0, c1, c2, c3, c4⟩ := rd_re hR1 k (by rw [HN.out]; exact hlt)
      obtain ⟨x, hx⟩ : ∃ x, at_ l k = x := ⟨_, rfl⟩
      rw [hx] at c0 c1 c2 c3 c4
      have HX := Lib.hid hx
      clear hx hR1
      obtain ⟨x0, x1, x2, x3, x4⟩ := x
      simp only at c0 c1 c2 c3 c4
      go_wp2_with fail
      have hal := below_one wr (.cells #[.int .i64 x0, .int .i64 x1, .int .u32 x2, .bool x3, .bool x4] 52)
      have hbx := Bx.new wr 52 [.int .i64 x0, .int .i64 x1, .int .u32 x2, .bool x3, .bool x4]
      change Bx (wr.alloc (.cells #[.int .i64 x0, .int .i64 x1, .int .u32 x2, .bool x3, .bool x4] 52)) _ _ _ at hbx
      generalize (wr.alloc (.cells #[.int .i64 x0, .int .i64 x1, .int .u32 x2, .bool x3, .bool x4] 52)) = w1 at *
      obtain ⟨bb, hbb⟩ : ∃ b, wr.heap.size = b := ⟨_, rfl⟩
      rw [hbb] at hbx ⊢
      obtain ⟨q0, q1, q2, q3, q4⟩ := hbx.five
      have HB1 := Lib.hid (below_then HB.out hal)
      have HBX := Lib.hid hbx
      have HAL := Lib.hid hal
      clear hal hbx hbb c0 c1 c2 c3 c4
      refine (rnamed_any x0 x1 w1).mono ?_
      rintro e w2 ⟨rfl, rfl⟩
      obtain ⟨bn, hbn⟩ : ∃ b, namedB x0 x1 = b := ⟨_, rfl⟩
      rw [hbn]
      have HBN := Lib.hid hbn
      clear hbn
      have HBAD : Hid ((bn && !(x3 && x4)) = false → mayR l = false) := fun h => mayR_bad (k := k) (by rw [HN.out]; exact hlt) (fun hh => by
        have h1 := hh.1
        rw [HX.out] at h1
        unfold okR at h1
        simp only at h1
        rw [HBN.out, h] at h1
        cases h1)
      have HOK : Hid ((bn && !(x3 && x4)) = true → okR (at_ l k) = true) := fun h => by
        rw [HX.out]
        unfold okR
        simp only
        rw [HBN.out, h]
      cases bn with
      | false =>
        go_wp2_with fail
        go_ret
        exact ⟨by rw [HBAD.out rfl]; first | rfl | trivial, HB1.out⟩
      | true =>
        by_cases hbb : x3 = true ∧ x4 = true
        · obtain ⟨rfl, rfl⟩ := hbb
          go_wp2_with fail
          go_ret
          exact ⟨by rw [HBAD.out rfl]; first | rfl | trivial, HB1.out⟩
        have HOKK := Lib.hid (HOK.out (by cases x3 <;> cases x4 <;> simp at hbb ⊢))
        have hcase : x3 = false ∨ (x3 = true ∧ x4 = false) := by cases x3 <;> cases x4 <;> simp at hbb ⊢
        clear hbb HBAD HOK
        by_cases hk0 : k = 0
        · subst hk0
          rcases hcase with rfl | ⟨rfl, rfl⟩
          all_goals
            go_wp2_with fail
            go_roundw
            case rel => exact ⟨0 + 1, by go_num, by omega, fun j hj => by
              obtain rfl : j = 0 := by omega
              exact ⟨HOKK.out, fun h => absurd h (by omega)⟩, HB1.out⟩
            case measure => simp [intOf]; omega
        · obtain ⟨j, rfl⟩ : ∃ j, k = j + 1 := ⟨k - 1, by omega⟩
          have hk0I : ¬ (((j + 1 : Nat) : Int) = 0) := by omega
          have hjn : (j : Int) < (n : Int) := by omega
          obtain ⟨z0, z1, z2, z3, z4⟩ := rd_re (HR1.out.below HAL.out (Nat.le_refl _)) j (by rw [HN.out]; omega)
          obtain ⟨y, hy⟩ : ∃ y, at_ l j = y := ⟨_, rfl⟩
          rw [hy] at z0 z1 z2 z3 z4
          have HY := Lib.hid hy
          clear hy
          obtain ⟨y0, y1, y2, y3, y4⟩ := y
          simp only at z0 z1 z2 z3 z4
          have hal2 := below_one w1 (.cells #[.int .i64 y0, .int .i64 y1, .int .u32 y2, .bool y3, .bool y4] 52)
          have hbx2 := Bx.new w1 52 [.int .i64 y0, .int .i64 y1, .int .u32 y2, .bool y3, .bool y4]
          change Bx (w1.alloc (.cells #[.int .i64 y0, .int .i64 y1, .int .u32 y2, .bool y3, .bool y4] 52)) _ _ _ at hbx2
          obtain ⟨r0, r1, r2, r3, r4⟩ := hbx2.five
          obtain ⟨s0, s1, s2, s3, s4⟩ := (HBX.out.below' hal2).five
          have HB2 := Lib.hid (below_then HB1.out hal2)
          have HBAD : Hid (¬ okP (y0, y1, y2, y3, y4) (x0, x1, x2, x3, x4) → mayR l = false) := fun h => mayR_bad (k := j + 1) (by rw [HN.out]; exact hlt) (fun hh => h (by
            have h1 := hh.2 (by omega)
            rw [HX.out, Nat.add_sub_cancel, HY.out] at h1
            exact h1))
          have HGOOD : Hid (okP (y0, y1, y2, y3, y4) (x0, x1, x2, x3, x4) → ∀ i, i < j + 1 + 1 → okR (at_ l i) = true ∧ (0 < i → okP (at_ l (i - 1)) (at_ l i))) := fun h i hi => by
            by_cases e : i = j + 1
            · subst e
              refine ⟨HOKK.out, fun _ => ?_⟩
              rw [HX.out, Nat.add_sub_cancel, HY.out]
              exact h
            · exact HAl.out i (by omega)
          have HIF := Lib.hid (okP_ref y0 y1 y2 y3 y4 x0 x1 x2 x3 x4)
          clear hal2 hbx2
          by_cases h1 : x0 < y0
          · rcases hcase with rfl | ⟨rfl, rfl⟩
            all_goals
              have HF : Hid (mayR l = false) := HBAD.out (fun h => (okP_ref _ _ _ _ _ _ _ _ _ _).1 h (.inl h1))
              clear HIF HBAD HGOOD
              go_wp2_with fail
              go_ret
              exact ⟨by rw [HF.out]; first | rfl | trivial, HB2.out⟩
          by_cases h2 : x0 = y0
          · subst h2
            cases y3 with
            | true =>
              rcases hcase with rfl | ⟨rfl, rfl⟩
              all_goals
                have HF : Hid (mayR l = false) := HBAD.out (fun h => (okP_ref _ _ _ _ _ _ _ _ _ _).1 h (.inr ⟨rfl, .inl rfl⟩))
                clear HIF HBAD HGOOD
                go_wp2_with fail
                go_ret
                exact ⟨by rw [HF.out]; first | rfl | trivial, HB2.out⟩
            | false =>
              cases x3 with
              | false =>
                clear hcase
                all_goals
                  have HF : Hid (mayR l = false) := HBAD.out (fun h => (okP_ref _ _ _ _ _ _ _ _ _ _).1 h (.inr ⟨rfl, .inr (.inl rfl)⟩))
                  clear HIF HBAD HGOOD
                  go_wp2_with fail
                  go_ret
                  exact ⟨by rw [HF.out]; first | rfl | trivial, HB2.out⟩
              | true =>
                obtain rfl : x4 = false := by rcases hcase with h | h
                                              · cases h
                                              · exact h.2
                clear hcase
                by_cases h5 : x1 ≤ y1
                · skip
                  all_goals
                    have HF : Hid (mayR l = false) := HBAD.out (fun h => (okP_ref _ _ _ _ _ _ _ _ _ _).1 h (.inr ⟨rfl, .inr (.inr h5)⟩))
                    clear HIF HBAD HGOOD
                    go_wp2_with fail
                    go_ret
                    exact ⟨by rw [HF.out]; first | rfl | trivial, HB2.out⟩
                · skip
                  all_goals
                    have HG := Lib.hid (HGOOD.out ((okP_ref _ _ _ _ _ _ _ _ _ _).2 (fun h => by rcases h with h | ⟨_, h | h | h⟩ <;> first | omega | cases h)))
                    clear HIF HBAD HGOOD
                    go_wp2_with fail
                    go_roundw
                    case rel => exact ⟨j + 1 + 1, by go_num, by omega, HG.out, HB2.out⟩
                    case measure => simp [intOf]; omega
          · rcases hcase with rfl | ⟨rfl, rfl⟩
            all_goals
              have HG := Lib.hid (HGOOD.out ((okP_ref _ _ _ _ _ _ _ _ _ _).2 (fun h => by rcases h with h | ⟨h, _⟩ <;> omega)))
              clear HIF HBAD HGOOD
              go_wp2_with fail
              go_roundw
              case rel => exact ⟨j + 1 + 1, by go_num, by omega, HG.out, HB2.out⟩
              case measure => simp [intOf]; omega
    · obtain rfl : k = n := by omega
      go_wp2_with fail
      go_ret
      exact ⟨by rw [mayR_good (fun j hj => HAl.out j (by rw [HN.out] at hj; exact hj))]; first | rfl | trivial, HB.out⟩

end Go.Proofs.Ytncgpojjibojlaa
