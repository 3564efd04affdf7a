/- sutureref12.Ints: its contract. -/
import Derived.Test.YtflndnbjdhbppaaNodesR
namespace Go.Proofs.Ytflndnbjdhbppaa
open Go Go.RowKit

theorem at_ext {α : Type} [Inhabited α] {a b : List α} (h : a.length = b.length) (hh : ∀ j, j < a.length → at_ a j = at_ b j) : a = b := by
  apply List.ext_getElem h
  intro i h1 h2
  have := hh i h1
  rw [at_eq h1, at_eq h2] at this
  exact this

set_option maxHeartbeats 2000000 in
theorem ints_any (va vb : Value) (a b : List Int) (w : World) (hA : Rd w 1 va a.length (a.flatMap inC)) (hB : Rd w 1 vb b.length (b.flatMap inC)) :
    Calls Try.prog 28 #[va, vb] w fun e w' => e = .returned (.bool (decide (a = b))) ∧ Below w.heap.size w w' := by
  obtain ⟨Aa, capa, hv, hcapa, hnca⟩ := hA.shape
  subst hv
  obtain ⟨Ab, capb, hv, hcapb, hncb⟩ := hB.shape
  subst hv
  obtain ⟨n, hn⟩ : ∃ n, a.length = n := ⟨_, rfl⟩
  obtain ⟨m, hm⟩ : ∃ m, b.length = m := ⟨_, rfl⟩
  have HA := Lib.hid hA
  have HB := Lib.hid hB
  have HN := Lib.hid hn
  have HM := Lib.hid hm
  rw [hn, hm]
  rw [hn] at hnca
  rw [hm] at hncb
  clear hA hB hn hm
  have hn63 : n ≤ 9223372036854775807 := by omega
  by_cases hnm : n = m
  · subst hnm
    go_enter Try.func28, Try.ntmps28
    go_wp2_with fail
    go_loopw [5] (fun s5 wr => ∃ k : Nat, s5 = .int .i64 k ∧ k ≤ n ∧ (∀ j, j < k → at_ a j = at_ b j) ∧ Below w.heap.size w wr) (fun s5 _ => n - (intOf s5).toNat)
    case atStart => exact ⟨0, rfl, by omega, fun j hj => absurd hj (by omega), Below.refl _ _⟩
    case round =>
      obtain ⟨k, rfl, hk, hall, hbel⟩ := hrel
      have HAl := Lib.hid hall
      have HBL := Lib.hid hbel
      clear hall hbel
      by_cases hlt : k < n
      · have hltI : (k : Int) < (n : Int) := by omega
        have hA1 := HA.out.below HBL.out (Nat.le_refl _)
        have hB1 := HB.out.below HBL.out (Nat.le_refl _)
        rw [HN.out] at hA1
        rw [HM.out] at hB1
        obtain ⟨ba, oa, e1, hbl⟩ := hA1.addr (by omega)
        subst e1
        obtain ⟨bb, ob, e1, hbl2⟩ := hB1.addr (by omega)
        subst e1
        have c0 := rd_int hA1 k (by rw [HN.out]; exact hlt)
        have c1 := rd_int hB1 k (by rw [HM.out]; exact hlt)
        obtain ⟨x, hx⟩ : ∃ x, at_ a k = x := ⟨_, rfl⟩
        obtain ⟨y, hy⟩ : ∃ y, at_ b k = y := ⟨_, rfl⟩
        rw [hx] at c0
        rw [hy] at c1
        have HX := Lib.hid hx
        have HY := Lib.hid hy
        clear hx hy hA1 hB1
        by_cases he : x = y
        · subst he
          go_wp2_with fail
          go_quiet (fail)
          go_wp2_with fail
          go_roundw
          case rel => exact ⟨k + 1, by go_num, by omega, fun j hj => by
            by_cases e : j = k
            · subst e; rw [HX.out, HY.out]
            · exact HAl.out j (by omega), below_drewN HBL.out _⟩
          case measure => simp [intOf]; omega
        · have he' : (x != y) = true := by simpa using he
          go_wp2_with fail
          go_quiet (fail)
          go_wp2_with fail
          go_ret
          refine ⟨?_, below_drewN HBL.out _⟩
          rw [decide_eq_false (fun e => he (by rw [← HX.out, ← HY.out, e]))]
          rfl
      · obtain rfl : k = n := by omega
        go_wp2_with fail
        go_ret
        refine ⟨?_, HBL.out⟩
        rw [decide_eq_true (at_ext (by rw [HN.out, HM.out]) (by rw [HN.out]; exact HAl.out))]
        rfl
  · have hnm' : ((n : Int) != (m : Int)) = true := by simpa using (by omega : ¬ (n : Int) = (m : Int))
    go_enter Try.func28, Try.ntmps28
    go_wp2_with fail
    go_ret
    refine ⟨?_, Below.refl _ _⟩
    rw [decide_eq_false (fun e => hnm (by rw [← HN.out, ← HM.out, e]))]
    rfl

end Go.Proofs.Ytflndnbjdhbppaa
