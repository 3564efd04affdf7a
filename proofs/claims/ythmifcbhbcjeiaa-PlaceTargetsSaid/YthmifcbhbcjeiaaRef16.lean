/- sutureref16: May, old, Target, More, Many: their contracts. -/
import Derived.Test.YthmifcbhbcjeiaaMany
import Derived.Test.YthmifcbhbcjeiaaRef12F
namespace Go.Proofs.Ythmifcbhbcjeiaa
open Go Go.RowKit Go.Sort

set_option maxHeartbeats 2000000 in
set_option maxRecDepth 100000 in
theorem rmay_any (v va vd vh : Value) (l : List Nq) (al : List Int) (ld : List Ld) (ho : List Int) (z : Int) (w : World) (hR : Rd w 4 v l.length (l.flatMap noC)) (hA : Rd w 1 va al.length (al.flatMap inC)) (hD : Rd w 2 vd ld.length (ld.flatMap ldC)) (hH : Rd w 1 vh ho.length (ho.flatMap inC)) :
    Calls Try.prog 40 #[v, va, vd, vh, .int .i64 z] w fun e w' => e = .returned (.bool (mayT l al ld ho z)) ∧ Below w.heap.size w w' := by
  have HR := Lib.hid hR
  have HA := Lib.hid hA
  have HH := Lib.hid hH
  have CD := fun (w' : World) (hb : Below w.heap.size w w') => Calls.same_below (rload_any vd ld z w' (hD.below hb (Nat.le_refl _)))
  have hm : mayT l al ld ho z = okN (findL l z) (hasB al z) (hasB ho z) (loadL ld z) := rfl
  have HM := Lib.hid hm
  clear hR hA hD hH hm
  go_enter Try.func40, Try.ntmps40
  go_wp2_with fail
  refine (refFind_any v l z w HR.out).mono ?_
  rintro e w1 ⟨rfl, hb1⟩
  obtain ⟨o, hoo⟩ : ∃ o, findL l z = o := ⟨_, rfl⟩
  obtain ⟨ba, hba⟩ : ∃ b, hasB al z = b := ⟨_, rfl⟩
  obtain ⟨bh, hbh⟩ : ∃ b, hasB ho z = b := ⟨_, rfl⟩
  obtain ⟨nl, hnl⟩ : ∃ n, loadL ld z = n := ⟨_, rfl⟩
  rw [hoo, hba, hbh, hnl] at HM
  rw [hoo]
  rw [hnl] at CD
  have HBA := Lib.hid hba
  have HBH := Lib.hid hbh
  have HB1 := Lib.hid hb1
  have hs1 := hb1.size
  clear hb1 hoo hba hbh hnl
  cases o with
  | none =>
    have HB2 := Lib.hid (below_then HB1.out (below_one w1 (.cells #[.int .i64 0, .int .i64 0, .int .i64 0, .int .i64 0] 28)))
    simp only [optN, noV, Option.getD_none, Option.isSome_none]
    go_wp2_with fail
    refine (rhas_in va al z _ (HA.out.below HB2.out (Nat.le_refl _))).mono ?_
    rintro e w3 ⟨he, rfl⟩
    rw [HBA.out] at he
    subst he
    go_wp2_with fail
    refine (rhas_in vh ho z _ (HH.out.below HB2.out (Nat.le_refl _))).mono ?_
    rintro e w3 ⟨he, rfl⟩
    rw [HBH.out] at he
    subst he
    go_wp2_with fail
    refine wp_region_quiet_below (by kernel_rfl) (by kernel_rfl) ?_
    repeat (go_big_quiet_step ((go_at_call 39; exact Calls.regrown_of (CD _ (below_then HB2.out (below_regrown _ _ _))))))
    refine wpQuiet_nil ?_
    intro _ hw'
    obtain ⟨⟨dd, os⟩, hw''⟩ := hw'
    subst hw''
    go_wp2_with fail
    go_ret
    exact ⟨by rw [HM.out]; rfl, below_then HB2.out (below_regrown _ _ _)⟩
  | some x =>
    obtain ⟨x0, x1, x2, x3⟩ := x
    have HB2 := Lib.hid (below_then HB1.out (below_one w1 (.cells #[.int .i64 x0, .int .i64 x1, .int .i64 x2, .int .i64 x3] 28)))
    obtain ⟨q0, q1, q2, q3⟩ := (Bx.new w1 28 [.int .i64 x0, .int .i64 x1, .int .i64 x2, .int .i64 x3]).four
    have F2 := fun d os => cell_regrown q2 d os
    have F3 := fun d os => cell_regrown q3 d os
    clear q0 q1 q2 q3
    simp only [optN, noV, Option.getD_some, Option.isSome_some]
    by_cases hx : x3 = 0
    · subst hx
      cases ba with
      | false =>
        go_wp2_with fail
        refine (rhas_in va al z _ (HA.out.below HB2.out (Nat.le_refl _))).mono ?_
        rintro e w3 ⟨he, rfl⟩
        rw [HBA.out] at he
        subst he
        go_wp2_with fail
        refine (rhas_in vh ho z _ (HH.out.below HB2.out (Nat.le_refl _))).mono ?_
        rintro e w3 ⟨he, rfl⟩
        rw [HBH.out] at he
        subst he
        go_wp2_with fail
        refine wp_region_quiet_below (by kernel_rfl) (by kernel_rfl) ?_
        repeat (go_big_quiet_step ((go_at_call 39; exact Calls.regrown_of (CD _ (below_then HB2.out (below_regrown _ _ _))))))
        refine wpQuiet_nil ?_
        intro _ hw'
        obtain ⟨⟨dd, os⟩, hw''⟩ := hw'
        subst hw''
        go_wp2_with fail
        go_ret
        exact ⟨by rw [HM.out]; rfl, below_then HB2.out (below_regrown _ _ _)⟩
      | true =>
        cases bh with
        | true =>
          go_wp2_with fail
          refine (rhas_in va al z _ (HA.out.below HB2.out (Nat.le_refl _))).mono ?_
          rintro e w3 ⟨he, rfl⟩
          rw [HBA.out] at he
          subst he
          go_wp2_with fail
          refine (rhas_in vh ho z _ (HH.out.below HB2.out (Nat.le_refl _))).mono ?_
          rintro e w3 ⟨he, rfl⟩
          rw [HBH.out] at he
          subst he
          go_wp2_with fail
          refine wp_region_quiet_below (by kernel_rfl) (by kernel_rfl) ?_
          repeat (go_big_quiet_step ((go_at_call 39; exact Calls.regrown_of (CD _ (below_then HB2.out (below_regrown _ _ _))))))
          refine wpQuiet_nil ?_
          intro _ hw'
          obtain ⟨⟨dd, os⟩, hw''⟩ := hw'
          subst hw''
          go_wp2_with fail
          go_ret
          exact ⟨by rw [HM.out]; rfl, below_then HB2.out (below_regrown _ _ _)⟩
        | false =>
          go_wp2_with fail
          refine (rhas_in va al z _ (HA.out.below HB2.out (Nat.le_refl _))).mono ?_
          rintro e w3 ⟨he, rfl⟩
          rw [HBA.out] at he
          subst he
          go_wp2_with fail
          refine (rhas_in vh ho z _ (HH.out.below HB2.out (Nat.le_refl _))).mono ?_
          rintro e w3 ⟨he, rfl⟩
          rw [HBH.out] at he
          subst he
          go_wp2_with fail
          refine wp_region_quiet_below (by kernel_rfl) (by kernel_rfl) ?_
          repeat (go_big_quiet_step ((go_at_call 39; exact Calls.regrown_of (CD _ (below_then HB2.out (below_regrown _ _ _))))))
          refine wpQuiet_nil ?_
          intro _ hw'
          obtain ⟨⟨dd, os⟩, hw''⟩ := hw'
          subst hw''
          go_wp2_with fail
          go_ret
          exact ⟨by rw [HM.out]; simp [okN], below_then HB2.out (below_regrown _ _ _)⟩
    · have hx' : (x3 == 0) = false := by simpa using hx
      go_wp2_with fail
      refine (rhas_in va al z _ (HA.out.below HB2.out (Nat.le_refl _))).mono ?_
      rintro e w3 ⟨he, rfl⟩
      rw [HBA.out] at he
      subst he
      go_wp2_with fail
      refine (rhas_in vh ho z _ (HH.out.below HB2.out (Nat.le_refl _))).mono ?_
      rintro e w3 ⟨he, rfl⟩
      rw [HBH.out] at he
      subst he
      go_wp2_with fail
      refine wp_region_quiet_below (by kernel_rfl) (by kernel_rfl) ?_
      repeat (go_big_quiet_step ((go_at_call 39; exact Calls.regrown_of (CD _ (below_then HB2.out (below_regrown _ _ _))))))
      refine wpQuiet_nil ?_
      intro _ hw'
      obtain ⟨⟨dd, os⟩, hw''⟩ := hw'
      subst hw''
      go_wp2_with fail
      go_ret
      exact ⟨by rw [HM.out]; simp [okN, hx'], below_then HB2.out (below_regrown _ _ _)⟩

theorem old_hit {l : List Nq} {ho : List Int} {r : Int} {k : Nat} (hk : k < ho.length) (h : rackOf l (at_ ho k) = some r) : oldB l ho r = true :=
  hasB_iff.2 ((racksOf_mem _ _ _).2 ⟨at_ ho k, at_mem hk, h⟩)
theorem old_miss {l : List Nq} {ho : List Int} {r : Int} (h : ∀ j, j < ho.length → rackOf l (at_ ho j) ≠ some r) : oldB l ho r = false := by
  cases hb : oldB l ho r with
  | false => rfl
  | true =>
    obtain ⟨id, hid, hr⟩ := (racksOf_mem _ _ _).1 (hasB_iff.1 hb)
    obtain ⟨j, hj, rfl⟩ := mem_at hid
    exact absurd hr (h j hj)

set_option maxHeartbeats 2000000 in
theorem rold_any (v vh : Value) (l : List Nq) (ho : List Int) (r : Int) (w : World) (hR : Rd w 4 v l.length (l.flatMap noC)) (hH : Rd w 1 vh ho.length (ho.flatMap inC)) :
    Calls Try.prog 55 #[v, vh, .int .i64 r] w fun e w' => e = .returned (.bool (oldB l ho r)) ∧ Below w.heap.size w w' := by
  obtain ⟨A, cap, hv, hcap, hnc⟩ := hH.shape
  obtain ⟨n, hn⟩ : ∃ n, ho.length = n := ⟨_, rfl⟩
  have HR := Lib.hid hR
  have HH := Lib.hid hH
  have HN := Lib.hid hn
  rw [hn] at hv hnc
  subst hv
  clear hR hH hn
  go_enter Try.func55, Try.ntmps55
  go_wp2_with fail
  go_loopw [7] (fun s7 wr => ∃ k : Nat, k ≤ n ∧ s7 = .int .i64 k ∧ (∀ j, j < k → rackOf l (at_ ho j) ≠ some r) ∧ Below w.heap.size w wr) (fun s7 _ => n - (intOf s7).toNat)
  case atStart => exact ⟨0, Nat.zero_le _, rfl, fun j hj => absurd hj (by omega), Below.refl _ _⟩
  case round =>
    obtain ⟨k, hk, rfl, hall, hbel⟩ := hrel
    have HAL := Lib.hid hall
    have HB := Lib.hid hbel
    clear hall hbel
    by_cases hlt : k < n
    · have hltI : (k : Int) < (n : Int) := by omega
      have hR1 := HH.out.below HB.out (Nat.le_refl _)
      rw [HN.out] at hR1
      obtain ⟨b, off, hA, hbl⟩ := hR1.addr (by omega)
      subst hA
      have c0 := rd_int hR1 k (by rw [HN.out]; exact hlt)
      obtain ⟨x, hx⟩ : ∃ x, at_ ho k = x := ⟨_, rfl⟩
      rw [hx] at c0
      have HX := Lib.hid hx
      clear hx hR1
      go_wp2_with fail
      refine (refFind_any v l x wr (HR.out.below HB.out (Nat.le_refl _))).mono ?_
      rintro e w1 ⟨rfl, hb1⟩
      have HB1 := Lib.hid (below_then HB.out hb1)
      clear hb1 c0
      obtain ⟨o, hoo⟩ : ∃ o, findL l x = o := ⟨_, rfl⟩
      rw [hoo]
      have HRK : Hid (rackOf l x = o.map (·.2.1)) := by unfold rackOf; rw [hoo]; exact rfl
      clear hoo
      cases o with
      | none =>
        have HB2 := Lib.hid (below_then HB1.out (below_one w1 (.cells #[.int .i64 0, .int .i64 0, .int .i64 0, .int .i64 0] 28)))
        simp only [optN, noV, Option.getD_none, Option.isSome_none]
        go_wp2_with fail
        go_roundw
        case rel => exact ⟨k + 1, by omega, by go_num, fun j hj => by
          by_cases e : j = k
          · subst e; rw [HX.out, HRK.out]; simp
          · exact HAL.out j (by omega), HB2.out⟩
        case measure => simp [intOf]; omega
      | some x =>
        obtain ⟨x0, x1, x2, x3⟩ := x
        have HB2 := Lib.hid (below_then HB1.out (below_one w1 (.cells #[.int .i64 x0, .int .i64 x1, .int .i64 x2, .int .i64 x3] 28)))
        obtain ⟨q0, q1, q2, q3⟩ := (Bx.new w1 28 [.int .i64 x0, .int .i64 x1, .int .i64 x2, .int .i64 x3]).four
        clear q0 q2 q3
        simp only [optN, noV, Option.getD_some, Option.isSome_some]
        by_cases he : x1 = r
        · subst he
          go_wp2_with fail
          go_ret
          refine ⟨?_, HB2.out⟩
          rw [old_hit (by rw [HN.out]; exact hlt) (by rw [HX.out, HRK.out]; exact rfl)]
          rfl
        · have he' : (x1 == r) = false := by simpa using he
          go_wp2_with fail
          go_roundw
          case rel => exact ⟨k + 1, by omega, by go_num, fun j hj => by
            by_cases e : j = k
            · subst e; rw [HX.out, HRK.out]; simpa using he
            · exact HAL.out j (by omega), HB2.out⟩
          case measure => simp [intOf]; omega
    · obtain rfl : k = n := by omega
      go_wp2_with fail
      go_ret
      refine ⟨?_, HB.out⟩
      rw [old_miss (by rw [HN.out]; exact HAL.out)]
      rfl

end Go.Proofs.Ythmifcbhbcjeiaa
