/- sutureref12: Fair, Find, In, Ints: their contracts. -/
import Derived.Test.YtflndnbjdhbppaaRef12
import Derived.Test.YtflndnbjdhbppaaNodesI
namespace Go.Proofs.Ytflndnbjdhbppaa
open Go Go.RowKit

/-- A slice that reads so. -/
def ReadsE (size n : Nat) (xs : List Value) (w : World) (en : Ending) (w' : World) : Prop := ∃ v', en = .returned v' ∧ Rd w' size v' n xs ∧ Below w.heap.size w w'

theorem refFair_any (v : Value) (l : List Nq) (w : World) (hR : Rd w 4 v l.length (l.flatMap noC)) :
    Calls Try.prog 76 #[v] w (ReadsE 4 (fairL l).length ((fairL l).flatMap noC) w) := by
  have HR := Lib.hid hR
  clear hR
  cases hm : mayL l with
  | true =>
    rw [fairL_of hm]
    have HM := Lib.hid hm
    clear hm
    go_enter Try.func76, Try.ntmps76
    go_wp2_with (go_at_call 78; refine (refMay_any v l w HR.out).mono ?_; rintro e w1 ⟨rfl, hb1⟩; rw [HM.out])
    go_ret
    exact ⟨_, rfl, HR.out.below hb1 (Nat.le_refl _), hb1⟩
  | false =>
    have e : fairL l = [] := by simp [fairL, hm]
    rw [e]
    have HM := Lib.hid hm
    clear hm e
    go_enter Try.func76, Try.ntmps76
    go_wp2_with (go_at_call 78; refine (refMay_any v l w HR.out).mono ?_; rintro e w1 ⟨rfl, hb1⟩; rw [HM.out])
    go_ret
    exact ⟨_, rfl, Rd.nil_ _ _, hb1⟩

theorem find_step {l : List Nq} {id : Int} {k : Nat} (h : ∀ j, j < k → noI (at_ l j) ≠ id) (hk : k < l.length) (he : noI (at_ l k) = id) : l.find? (fun x => noI x == id) = some (at_ l k) := by
  rw [List.find?_eq_some_iff_getElem]
  refine ⟨by simpa using he, k, hk, (at_eq hk).symm, fun j hj => ?_⟩
  have := h j hj
  rw [at_eq (show j < l.length by omega)] at this
  simpa using this
theorem find_stop {l : List Nq} {id : Int} (h : ∀ j, j < l.length → noI (at_ l j) ≠ id) : l.find? (fun x => noI x == id) = none := by
  rw [List.find?_eq_none]
  intro x hx
  obtain ⟨j, hj, rfl⟩ := mem_at hx
  simpa using h j hj

set_option maxHeartbeats 2000000 in
theorem refFind_any (v : Value) (l : List Nq) (id : Int) (w : World) (hR : Rd w 4 v l.length (l.flatMap noC)) :
    Calls Try.prog 70 #[v, .int .i64 id] w fun e w' => e = .returned (.tuple #[noV (optN (findL l id)), .bool (findL l id).isSome]) ∧ Below w.heap.size w w' := by
  have HR := Lib.hid hR
  clear hR
  go_enter Try.func70, Try.ntmps70
  go_wp2_with fail
  have hal := below_one w (.cells #[.int .i64 0, .int .i64 0, .int .i64 0, .int .i64 0] 58)
  refine (refFair_any v l _ (HR.out.below hal (Nat.le_refl _))).mono ?_
  rintro e w1 ⟨v1, rfl, hr1, hb1⟩
  obtain ⟨A1, cap1, hv1, hcap1, hnc1⟩ := hr1.shape
  subst hv1
  obtain ⟨m, hm⟩ : ∃ m, (fairL l).length = m := ⟨_, rfl⟩
  have HM := Lib.hid hm
  have HR1 := Lib.hid hr1
  have HB1 := Lib.hid (below_then hal hb1)
  have HX1 : Hid (Bx w1 w.heap.size 58 [.int .i64 0, .int .i64 0, .int .i64 0, .int .i64 0]) := (Bx.new w _ _).below hb1 (by simp)
  have hBw : w.heap.size < w1.heap.size := HX1.out.lt
  rw [hm] at hnc1 ⊢
  have hm63 : m ≤ 9223372036854775807 := by omega
  clear hr1 hb1 hm hal
  go_wp2_with fail
  go_loopw [7] (fun s7 wr => ∃ k : Nat, s7 = .int .i64 k ∧ k ≤ m ∧ (∀ j, j < k → noI (at_ (fairL l) j) ≠ id) ∧ wr = w1) (fun s7 _ => m - (intOf s7).toNat)
  case atStart => exact ⟨0, rfl, by omega, fun j hj => absurd hj (by omega), rfl⟩
  case round =>
    obtain ⟨k, rfl, hk, hall, rfl⟩ := hrel
    have HA := Lib.hid hall
    clear hall
    by_cases hlt : k < m
    · have hltI : (k : Int) < (m : Int) := by omega
      have hR1 := HR1.out
      rw [HM.out] at hR1
      obtain ⟨b, off, hA, hbl⟩ := hR1.addr (by omega)
      subst hA
      obtain ⟨c0, c1, c2, c3⟩ := rd_no hR1 k (by rw [HM.out]; exact hlt)
      obtain ⟨x, hx⟩ : ∃ x, at_ (fairL l) k = x := ⟨_, rfl⟩
      rw [hx] at c0 c1 c2 c3
      obtain ⟨x0, x1, x2, x3⟩ := x
      simp only at c0 c1 c2 c3
      have HX := Lib.hid hx
      clear hx hR1
      by_cases he : x0 = id
      · subst he
        go_wp2_with (with_reducible refine wpList_store_box rfl 58 _ _ rfl w.heap.size 58 _ [.int .i64 x0, .int .i64 x1, .int .i64 x2, .int .i64 x3] rfl HX1.out rfl rfl ?hk ?hl ?hm)
        case hk => kernel_rfl
        case hl => simp [Value.oneCell']
        case hm =>
          intro w3 hbx3 hfr3
          obtain ⟨q0, q1, q2, q3⟩ := hbx3.four
          go_wp2_with fail
          have HF : findL l x0 = some (x0, x1, x2, x3) := by
            have := find_step HA.out (by rw [HM.out]; exact hlt) (by rw [HX.out]; rfl)
            rw [HX.out] at this
            exact this
          refine bodyPost_ret (v := .tuple #[noV (x0, x1, x2, x3), .bool true]) ?_ rfl ⟨by rw [HF]; rfl, ?_⟩
          · simp [results, Try.results70, go_sem, noV, q0, q1, q2, q3]
          · exact HB1.out.trans (hfr3.below (by omega) (fun k hk => by omega))
      · have he' : (x0 == id) = false := by simpa using he
        go_wp2_with fail
        go_roundw
        case rel => exact ⟨k + 1, by go_num, by omega, fun j hj => by
          by_cases e : j = k
          · subst e; rw [HX.out]; exact he
          · exact HA.out j (by omega), trivial⟩
        case measure => simp [intOf]; omega
    · obtain rfl : k = m := by omega
      go_wp2_with (with_reducible refine wpList_store_box rfl 58 _ _ rfl w.heap.size 58 _ [.int .i64 0, .int .i64 0, .int .i64 0, .int .i64 0] rfl HX1.out rfl rfl ?hk ?hl ?hm)
      case hk => kernel_rfl
      case hl => simp [Value.oneCell']
      case hm =>
        intro w3 hbx3 hfr3
        obtain ⟨q0, q1, q2, q3⟩ := hbx3.four
        go_wp2_with fail
        have HF : findL l id = none := find_stop (by rw [HM.out]; exact HA.out)
        refine bodyPost_ret (v := .tuple #[noV (0, 0, 0, 0), .bool false]) ?_ rfl ⟨by rw [HF]; rfl, ?_⟩
        · simp [results, Try.results70, go_sem, noV, q0, q1, q2, q3]
        · exact HB1.out.trans (hfr3.below (by omega) (fun k hk => by omega))


end Go.Proofs.Ytflndnbjdhbppaa
