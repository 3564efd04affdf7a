/- suture/sutureref10.Same at api.Replica: its contract. -/
import Derived.Test.YtncgpojjibojlaaGaq
import Derived.Test.YtncgpojjibojlaaCmp1q
namespace Go.Proofs.Ytncgpojjibojlaa
open Go Go.RowKit

theorem at_ext_re {a b : List Re} (h : a.length = b.length) (hh : ∀ j, j < a.length → at_ a j = at_ b j) : a = b := by
  apply List.ext_getElem h
  intro i h1 h2
  have := hh i h1
  rw [at_eq h1, at_eq h2] at this
  exact this

set_option maxHeartbeats 2000000 in
theorem same_re (va vb : Value) (a b : List Re) (w : World) (hA : Rd w 5 va a.length (a.flatMap reC)) (hB : Rd w 5 vb b.length (b.flatMap reC)) :
    Calls Try.prog 23 #[va, vb] w fun e w' => e = .returned (.bool (decide (a = b))) ∧ Below w.heap.size w w' := by
  obtain ⟨Aa, capa, hv, hcapa, hnca⟩ := hA.shape
  subst hv
  obtain ⟨Ab, capb, hv, hcapb, hncb⟩ := hB.shape
  subst hv
  obtain ⟨n, hn⟩ : ∃ n, a.length = n := ⟨_, rfl⟩
  obtain ⟨m, hm⟩ : ∃ m, b.length = m := ⟨_, rfl⟩
  have HA := Lib.hid hA
  have HB := Lib.hid hB
  have HN := Lib.hid hn
  have HM := Lib.hid hm
  rw [hn, hm]
  rw [hn] at hnca
  rw [hm] at hncb
  clear hA hB hn hm
  have hn63 : n ≤ 9223372036854775807 := by omega
  by_cases hnm : n = m
  · subst hnm
    go_enter Try.func23, Try.ntmps23
    go_wp2_with fail
    go_loopw [5] (fun s5 wr => ∃ k : Nat, s5 = .int .i64 k ∧ k ≤ n ∧ (∀ j, j < k → at_ a j = at_ b j) ∧ Below w.heap.size w wr) (fun s5 _ => n - (intOf s5).toNat)
    case atStart => exact ⟨0, rfl, by omega, fun j hj => absurd hj (by omega), Below.refl _ _⟩
    case round =>
      obtain ⟨k, rfl, hk, hall, hbel⟩ := hrel
      have HAl := Lib.hid hall
      have HBL := Lib.hid hbel
      clear hall hbel
      by_cases hlt : k < n
      · have hltI : (k : Int) < (n : Int) := by omega
        have hA1 := HA.out.below HBL.out (Nat.le_refl _)
        have hB1 := HB.out.below HBL.out (Nat.le_refl _)
        rw [HN.out] at hA1
        rw [HM.out] at hB1
        obtain ⟨ba, oa, e1, hbl⟩ := hA1.addr (by omega)
        subst e1
        obtain ⟨bb, ob, e1, hbl2⟩ := hB1.addr (by omega)
        subst e1
        obtain ⟨c0, c1, c2, c3, c4⟩ := rd_re hA1 k (by rw [HN.out]; exact hlt)
        obtain ⟨d0, d1, d2, d3, d4⟩ := rd_re hB1 k (by rw [HM.out]; exact hlt)
        obtain ⟨x, hx⟩ : ∃ x, at_ a k = x := ⟨_, rfl⟩
        obtain ⟨y, hy⟩ : ∃ y, at_ b k = y := ⟨_, rfl⟩
        rw [hx] at c0 c1 c2 c3 c4
        rw [hy] at d0 d1 d2 d3 d4
        have HX := Lib.hid hx
        have HY := Lib.hid hy
        clear hx hy hA1 hB1
        obtain ⟨x0, x1, x2, x3, x4⟩ := x
        obtain ⟨y0, y1, y2, y3, y4⟩ := y
        simp only at c0 c1 c2 c3 c4 d0 d1 d2 d3 d4
        by_cases h0 : x0 = y0
        · subst h0
          by_cases h1 : x1 = y1
          · subst h1
            by_cases h2 : x2 = y2
            · subst h2
              by_cases h3 : x3 = y3
              · subst h3
                by_cases h4 : x4 = y4
                · subst h4
                  go_wp2_with fail
                  go_quiet (fail)
                  go_wp2_with fail
                  go_roundw
                  case rel => exact ⟨k + 1, by go_num, by omega, fun j hj => by
                    by_cases e : j = k
                    · subst e; rw [HX.out, HY.out]
                    · exact HAl.out j (by omega), below_drewN HBL.out _⟩
                  case measure => simp [intOf]; omega
                · have hf : (x4 == y4) = false := by simpa using h4
                  have HF := Lib.hid h4
                  go_wp2_with fail
                  go_quiet (fail)
                  go_wp2_with fail
                  go_ret
                  refine ⟨?_, below_drewN HBL.out _⟩
                  rw [decide_eq_false (fun e => HF.out (by have h1 := HX.out; have h2 := HY.out; rw [e, h2] at h1; simp only [Prod.mk.injEq] at h1; simp_all))]
                  rfl
              · have hf : (x3 == y3) = false := by simpa using h3
                have HF := Lib.hid h3
                go_wp2_with fail
                go_quiet (fail)
                go_wp2_with fail
                go_ret
                refine ⟨?_, below_drewN HBL.out _⟩
                rw [decide_eq_false (fun e => HF.out (by have h1 := HX.out; have h2 := HY.out; rw [e, h2] at h1; simp only [Prod.mk.injEq] at h1; simp_all))]
                rfl
            · have hf : (x2 == y2) = false := by simpa using h2
              have HF := Lib.hid h2
              go_wp2_with fail
              go_quiet (fail)
              go_wp2_with fail
              go_ret
              refine ⟨?_, below_drewN HBL.out _⟩
              rw [decide_eq_false (fun e => HF.out (by have h1 := HX.out; have h2 := HY.out; rw [e, h2] at h1; simp only [Prod.mk.injEq] at h1; simp_all))]
              rfl
          · have hf : (x1 == y1) = false := by simpa using h1
            have HF := Lib.hid h1
            go_wp2_with fail
            go_quiet (fail)
            go_wp2_with fail
            go_ret
            refine ⟨?_, below_drewN HBL.out _⟩
            rw [decide_eq_false (fun e => HF.out (by have h1 := HX.out; have h2 := HY.out; rw [e, h2] at h1; simp only [Prod.mk.injEq] at h1; simp_all))]
            rfl
        · have hf : (x0 == y0) = false := by simpa using h0
          have HF := Lib.hid h0
          go_wp2_with fail
          go_quiet (fail)
          go_wp2_with fail
          go_ret
          refine ⟨?_, below_drewN HBL.out _⟩
          rw [decide_eq_false (fun e => HF.out (by have h1 := HX.out; have h2 := HY.out; rw [e, h2] at h1; simp only [Prod.mk.injEq] at h1; simp_all))]
          rfl
      · obtain rfl : k = n := by omega
        go_wp2_with fail
        go_ret
        refine ⟨?_, HBL.out⟩
        rw [decide_eq_true (at_ext_re (by rw [HN.out, HM.out]) (by rw [HN.out]; exact HAl.out))]
        rfl
  · have hnm' : ((n : Int) != (m : Int)) = true := by simpa using (by omega : ¬ (n : Int) = (m : Int))
    go_enter Try.func23, Try.ntmps23
    go_wp2_with fail
    go_ret
    refine ⟨?_, Below.refl _ _⟩
    rw [decide_eq_false (fun e => hnm (by rw [← HN.out, ← HM.out, e]))]
    rfl

end Go.Proofs.Ytncgpojjibojlaa
