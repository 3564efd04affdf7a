/- place.May and sutureref16.May: their contracts. -/
import Derived.Test.YthmifcbhbcjeiaaLoad
import Derived.Test.YthmifcbhbcjeiaaNodesF
import Derived.Test.YthmifcbhbcjeiaaRef12F
import Derived.BigQuiet
import Derived.Lib.QuietBelow
namespace Go.Proofs.Ythmifcbhbcjeiaa
open Go Go.RowKit Go.Sort

def okN (o : Option Nq) (ba bh : Bool) (n : Int) : Bool :=
  match o with
  | none => false
  | some x => x.2.2.2 == 0 && ba && !bh && decide (n < x.2.2.1)
def mayT (l : List Nq) (al : List Int) (ld : List Ld) (ho : List Int) (z : Int) : Bool := okN (findL l z) (hasB al z) (hasB ho z) (loadL ld z)

theorem Calls.same_below {P : Program} {f : FuncId} {args : Array Value} {w : World} {v : Value} (h : Calls P f args w fun e w' => e = .returned v ∧ w = w') : Calls P f args w fun e w' => e = .returned v ∧ Below w.heap.size w w' :=
  h.mono fun _ _ ⟨he, hw⟩ => ⟨he, by subst hw; exact Below.refl _ _⟩

set_option maxHeartbeats 1000000 in
set_option maxRecDepth 100000 in
theorem mayp_any (v va vd vh : Value) (l : List Nq) (al : List Int) (ld : List Ld) (ho : List Int) (z : Int) (w : World) (hl : l.length ≤ 1000) (hR : Rd w 4 v l.length (l.flatMap noC)) (hA : Rd w 1 va al.length (al.flatMap inC)) (hD : Rd w 2 vd ld.length (ld.flatMap ldC)) (hH : Rd w 1 vh ho.length (ho.flatMap inC)) :
    Calls Try.prog 29 #[v, va, vd, vh, .int .i64 z] w fun e w' => e = .returned (.bool (mayT l al ld ho z)) ∧ Below w.heap.size w w' := by
  have HR := Lib.hid hR
  have CA := fun (w' : World) (hb : Below w.heap.size w w') => Calls.same_below (has_in va al z w' (hA.below hb (Nat.le_refl _)))
  have CH := fun (w' : World) (hb : Below w.heap.size w w') => Calls.same_below (has_in vh ho z w' (hH.below hb (Nat.le_refl _)))
  have CD := fun (w' : World) (hb : Below w.heap.size w w') => load_any vd ld z w' (hD.below hb (Nat.le_refl _))
  have hm : mayT l al ld ho z = okN (findL l z) (hasB al z) (hasB ho z) (loadL ld z) := rfl
  have HM := Lib.hid hm
  clear hR hA hD hH hm
  go_enter Try.func29, Try.ntmps29
  go_wp2_with fail
  refine (find_any v l z w hl HR.out).mono ?_
  rintro e w1 ⟨rfl, hb1⟩
  obtain ⟨o, hoo⟩ : ∃ o, findL l z = o := ⟨_, rfl⟩
  obtain ⟨ba, hba⟩ : ∃ b, hasB al z = b := ⟨_, rfl⟩
  obtain ⟨bh, hbh⟩ : ∃ b, hasB ho z = b := ⟨_, rfl⟩
  obtain ⟨nl, hnl⟩ : ∃ n, loadL ld z = n := ⟨_, rfl⟩
  rw [hoo, hba, hbh, hnl] at HM
  rw [hoo]
  rw [hba] at CA
  rw [hbh] at CH
  rw [hnl] at CD
  have HB1 := Lib.hid hb1
  have hs1 := hb1.size
  clear hb1 hoo hba hbh hnl
  cases o with
  | none =>
    have HB2 := Lib.hid (below_then HB1.out (below_one w1 (.cells #[.int .i64 0, .int .i64 0, .int .i64 0, .int .i64 0] 28)))
    simp only [optN, noV, Option.getD_none, Option.isSome_none]
    go_wp2_with fail
    refine wp_region_quiet_below (by kernel_rfl) (by kernel_rfl) ?_
    repeat (go_big_quiet_step (first | (go_at_call 51; first | exact Calls.regrown_of (CA _ (below_then HB2.out (below_regrown _ _ _))) | exact Calls.regrown_of (CH _ (below_then HB2.out (below_regrown _ _ _)))) | (go_at_call 31; exact Calls.regrown_of (CD _ (below_then HB2.out (below_regrown _ _ _))))))
    refine wpQuiet_nil ?_
    intro _ hw'
    obtain ⟨⟨dd, os⟩, hw''⟩ := hw'
    subst hw''
    go_wp2_with fail
    go_ret
    exact ⟨by rw [HM.out]; rfl, below_then HB2.out (below_regrown _ _ _)⟩
  | some x =>
    obtain ⟨x0, x1, x2, x3⟩ := x
    have HB2 := Lib.hid (below_then HB1.out (below_one w1 (.cells #[.int .i64 x0, .int .i64 x1, .int .i64 x2, .int .i64 x3] 28)))
    obtain ⟨q0, q1, q2, q3⟩ := (Bx.new w1 28 [.int .i64 x0, .int .i64 x1, .int .i64 x2, .int .i64 x3]).four
    have F2 := fun d os => cell_regrown q2 d os
    have F3 := fun d os => cell_regrown q3 d os
    clear q0 q1 q2 q3
    simp only [optN, noV, Option.getD_some, Option.isSome_some]
    by_cases hx : x3 = 0
    · subst hx
      cases ba with
      | false =>
        go_wp2_with fail
        refine wp_region_quiet_below (by kernel_rfl) (by kernel_rfl) ?_
        repeat (go_big_quiet_step (first | (go_at_call 51; first | exact Calls.regrown_of (CA _ (below_then HB2.out (below_regrown _ _ _))) | exact Calls.regrown_of (CH _ (below_then HB2.out (below_regrown _ _ _)))) | (go_at_call 31; exact Calls.regrown_of (CD _ (below_then HB2.out (below_regrown _ _ _))))))
        refine wpQuiet_nil ?_
        intro _ hw'
        obtain ⟨⟨dd, os⟩, hw''⟩ := hw'
        subst hw''
        go_wp2_with fail
        go_ret
        exact ⟨by rw [HM.out]; rfl, below_then HB2.out (below_regrown _ _ _)⟩
      | true =>
        cases bh with
        | true =>
          go_wp2_with fail
          refine wp_region_quiet_below (by kernel_rfl) (by kernel_rfl) ?_
          repeat (go_big_quiet_step (first | (go_at_call 51; first | exact Calls.regrown_of (CA _ (below_then HB2.out (below_regrown _ _ _))) | exact Calls.regrown_of (CH _ (below_then HB2.out (below_regrown _ _ _)))) | (go_at_call 31; exact Calls.regrown_of (CD _ (below_then HB2.out (below_regrown _ _ _))))))
          refine wpQuiet_nil ?_
          intro _ hw'
          obtain ⟨⟨dd, os⟩, hw''⟩ := hw'
          subst hw''
          go_wp2_with fail
          go_ret
          exact ⟨by rw [HM.out]; rfl, below_then HB2.out (below_regrown _ _ _)⟩
        | false =>
          go_wp2_with fail
          refine wp_region_quiet_below (by kernel_rfl) (by kernel_rfl) ?_
          repeat (go_big_quiet_step (first | (go_at_call 51; first | exact Calls.regrown_of (CA _ (below_then HB2.out (below_regrown _ _ _))) | exact Calls.regrown_of (CH _ (below_then HB2.out (below_regrown _ _ _)))) | (go_at_call 31; exact Calls.regrown_of (CD _ (below_then HB2.out (below_regrown _ _ _))))))
          refine wpQuiet_nil ?_
          intro _ hw'
          obtain ⟨⟨dd, os⟩, hw''⟩ := hw'
          subst hw''
          go_wp2_with fail
          go_ret
          exact ⟨by rw [HM.out]; simp [okN], below_then HB2.out (below_regrown _ _ _)⟩
    · have hx' : (x3 == 0) = false := by simpa using hx
      go_wp2_with fail
      refine wp_region_quiet_below (by kernel_rfl) (by kernel_rfl) ?_
      repeat (go_big_quiet_step (first | (go_at_call 51; first | exact Calls.regrown_of (CA _ (below_then HB2.out (below_regrown _ _ _))) | exact Calls.regrown_of (CH _ (below_then HB2.out (below_regrown _ _ _)))) | (go_at_call 31; exact Calls.regrown_of (CD _ (below_then HB2.out (below_regrown _ _ _))))))
      refine wpQuiet_nil ?_
      intro _ hw'
      obtain ⟨⟨dd, os⟩, hw''⟩ := hw'
      subst hw''
      go_wp2_with fail
      go_ret
      exact ⟨by rw [HM.out]; simp [okN, hx'], below_then HB2.out (below_regrown _ _ _)⟩

end Go.Proofs.Ythmifcbhbcjeiaa
