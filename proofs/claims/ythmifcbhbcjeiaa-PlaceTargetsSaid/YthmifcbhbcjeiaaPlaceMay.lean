/- PlaceMay: the walk. -/
import Derived.Test.YthmifcbhbcjeiaaAwake16
namespace Go.Proofs.Ythmifcbhbcjeiaa
open Go Go.RowKit Go.Sort

theorem fold_some {l : List Nq} {al : List Int} {ld : List Ld} {ho : List Int} (xs : List Nq) : ∀ acc, (acc.isSome = true ∨ ∃ x ∈ xs, mayT l al ld ho x.1 = true) → (xs.foldl (stepT l al ld ho) acc).isSome = true := by
  induction xs with
  | nil =>
    rintro acc (h | ⟨x, hx, _⟩)
    · exact h
    · cases hx
  | cons x xs ih =>
    intro acc h
    refine ih _ ?_
    by_cases hm : mayT l al ld ho x.1 = true
    · left
      unfold stepT
      cases acc with
      | none => simp [hm, beats]
      | some a => split <;> rfl
    · rcases h with h | ⟨y, hy, hmy⟩
      · left
        unfold stepT
        simp [hm, h]
      · rcases List.mem_cons.1 hy with rfl | hy
        · exact absurd hmy hm
        · exact .inr ⟨y, hy, hmy⟩
theorem tgtL_none {l : List Nq} {al : List Int} {ld : List Ld} {ho : List Int} (h : tgtL l al ld ho = none) (z : Int) : mayT l al ld ho z = false := by
  cases hm : mayT l al ld ho z with
  | false => rfl
  | true =>
    obtain ⟨x, hx, _⟩ := (mayT_iff _ _ _ _ _).1 hm
    obtain ⟨_, hxl, rfl⟩ := findL_some.1 hx
    have := fold_some (l := l) (al := al) (ld := ld) (ho := ho) l none (.inr ⟨x, hxl, hm⟩)
    rw [show l.foldl (stepT l al ld ho) none = tgtL l al ld ho from rfl, h] at this
    cases this

set_option maxHeartbeats 2000000 in
set_option maxRecDepth 100000 in
theorem placeMay_walk (v : Value) (l : List Nq) (va : Value) (al : List Int) (vd : Value) (ld : List Ld) (vh : Value) (ho : List Int) (z : Int) (W : World) (hwf : okW l) (hR : Rd W 4 v l.length (l.flatMap noC)) (hA : Rd W 1 va al.length (al.flatMap inC)) (hD : Rd W 2 vd ld.length (ld.flatMap ldC)) (hH : Rd W 1 vh ho.length (ho.flatMap inC)) :
    Calls Try.prog 7 #[v, va, vd, vh, .int .i64 z] W fun e w' => e = .returned (.bool true) ∧ Below W.heap.size W w' := by
  have HR := Lib.hid hR
  have HA := Lib.hid hA
  have HD := Lib.hid hD
  have HH := Lib.hid hH
  have HW := Lib.hid hwf
  clear hR hA hD hH hwf
  go_enter Try.func7, Try.ntmps7
  go_wp2_with fail
  refine (awake16 W).mono ?_
  rintro e w1 ⟨rfl, hb1⟩
  have HB1 := Lib.hid hb1
  clear hb1
  go_wp2_with fail
  refine (few16 _ _ _ _ l al ld ho w1 (HR.out.below HB1.out (Nat.le_refl _)) (HA.out.below HB1.out (Nat.le_refl _)) (HD.out.below HB1.out (Nat.le_refl _)) (HH.out.below HB1.out (Nat.le_refl _))).mono ?_
  rintro e w2 ⟨b, rfl, hf, rfl⟩
  cases b with
  | false =>
    clear hf
    go_wp2_with fail
    go_ret
    exact ⟨rfl, HB1.out⟩
  | true =>
    obtain ⟨⟨h1, h2, h3, h4⟩, h5⟩ := hf rfl
    clear hf
    have HP : Hid (posD ld) := fun y hy => (h5 y hy).1
    clear h5
    go_wp2_with fail
    refine (May_any _ l w1 (HR.out.below HB1.out (Nat.le_refl _))).mono ?_
    rintro e w2 ⟨rfl, hb2⟩
    have HB2 := Lib.hid (below_then HB1.out hb2)
    clear hb2
    obtain ⟨bm, hbm⟩ : ∃ b, mayL l = b := ⟨_, rfl⟩
    rw [hbm]
    have HBM := Lib.hid hbm
    clear hbm
    cases bm with
    | false =>
      go_wp2_with fail
      go_ret
      exact ⟨rfl, HB2.out⟩
    | true =>
      go_wp2_with fail
      refine (target_any _ _ _ _ l al ld ho w2 (by omega) (by omega) HW.out HP.out (HR.out.below HB2.out (Nat.le_refl _)) (HA.out.below HB2.out (Nat.le_refl _)) (HD.out.below HB2.out (Nat.le_refl _)) (HH.out.below HB2.out (Nat.le_refl _))).mono ?_
      rintro e w3 ⟨rfl, hb3⟩
      have HB3 := Lib.hid (below_then HB2.out hb3)
      clear hb3
      obtain ⟨o, hoo⟩ : ∃ o, tgtL l al ld ho = o := ⟨_, rfl⟩
      rw [hoo]
      have HT := Lib.hid hoo
      clear hoo
      cases o with
      | none =>
        have HMT := Lib.hid (tgtL_none HT.out z)
        simp only [idO, Option.map_none, Option.getD_none, Option.isSome_none]
        go_wp2_with fail
        refine (mayp_any _ va vd vh l al ld ho z w3 (by omega) (HR.out.below HB3.out (Nat.le_refl _)) (HA.out.below HB3.out (Nat.le_refl _)) (HD.out.below HB3.out (Nat.le_refl _)) (HH.out.below HB3.out (Nat.le_refl _))).mono ?_
        rintro e w4 ⟨rfl, hb4⟩
        rw [HMT.out]
        have HB4 := Lib.hid (below_then HB3.out hb4)
        clear hb4
        go_wp2_with fail
        go_ret
        exact ⟨rfl, HB4.out⟩
      | some a =>
        obtain ⟨hal, hma⟩ := tgtL_ok HT.out
        obtain ⟨hml, hst, hba, hbh, hld, _⟩ := mayT_spec hal hma
        have hfd : findL l a.1 = some a := findL_some.2 ⟨hml, hal, rfl⟩
        have HMA := Lib.hid hma
        have HBA := Lib.hid hba
        have HBH := Lib.hid hbh
        have HLD := Lib.hid hld
        have HFD := Lib.hid hfd
        obtain ⟨a0, a1, a2, a3⟩ := a
        simp only at hst
        subst hst
        clear hal hma hml hba hbh hld hfd
        simp only [idO, Option.map_some, Option.getD_some, Option.isSome_some]
        go_wp2_with fail
        refine (find_any _ l a0 w3 (by omega) (HR.out.below HB3.out (Nat.le_refl _))).mono ?_
        rintro e w4 ⟨rfl, hb4⟩
        have hfd : findL l a0 = some (a0, a1, a2, 0) := HFD.out
        rw [hfd]
        simp only [optN, noV, Option.getD_some, Option.isSome_some]
        have HB4 := Lib.hid (below_then (below_then HB3.out hb4) (below_one w4 (.cells #[.int .i64 a0, .int .i64 a1, .int .i64 a2, .int .i64 0] 28)))
        obtain ⟨q0, q1, q2, q3⟩ := (Bx.new w4 28 [.int .i64 a0, .int .i64 a1, .int .i64 a2, .int .i64 0]).four
        have F2 := fun d os => cell_regrown q2 d os
        have F3 := fun d os => cell_regrown q3 d os
        clear q0 q1 q2 q3 hb4 hfd
        go_wp2_with fail
        generalize (w4.alloc (.cells #[.int .i64 a0, .int .i64 a1, .int .i64 a2, .int .i64 0] 28)) = w5 at *
        generalize w4.heap.size = g at *
        refine (rhas_in _ al a0 w5 (HA.out.below HB4.out (Nat.le_refl _))).mono ?_
        rintro e w6 ⟨he, rfl⟩
        have he' : e = .returned (.bool true) := by rw [he]; exact congrArg (fun b => Ending.returned (.bool b)) HBA.out
        subst he'
        clear he
        go_wp2_with fail
        refine (rhas_in _ ho a0 w5 (HH.out.below HB4.out (Nat.le_refl _))).mono ?_
        rintro e w6 ⟨he, rfl⟩
        have he' : e = .returned (.bool false) := by rw [he]; exact congrArg (fun b => Ending.returned (.bool b)) HBH.out
        subst he'
        clear he
        have CM := fun (w' : World) (hb : Below W.heap.size W w') => mayp_any v va vd vh l al ld ho a0 w' (by omega) (HR.out.below hb (Nat.le_refl _)) (HA.out.below hb (Nat.le_refl _)) (HD.out.below hb (Nat.le_refl _)) (HH.out.below hb (Nat.le_refl _))
        rw [show mayT l al ld ho a0 = true from HMA.out] at CM
        have CD := fun (w' : World) (hb : Below W.heap.size W w') => load_any vd ld a0 w' (HD.out.below hb (Nat.le_refl _))
        obtain ⟨nl, hnl⟩ : ∃ n, loadL ld a0 = n := ⟨_, rfl⟩
        rw [hnl] at CD
        have hlt : nl < a2 := by rw [← hnl]; exact HLD.out
        clear hnl
        go_wp2_with fail
        refine wp_region_quiet_below (by kernel_rfl) (by kernel_rfl) ?_
        repeat (go_big_quiet_step (first | (go_at_call 29; exact Calls.regrown_of (CM _ (below_then HB4.out (below_regrown _ _ _)))) | (go_at_call 31; exact Calls.regrown_of (CD _ (below_then HB4.out (below_regrown _ _ _))))))
        refine wpQuiet_nil ?_
        intro _ hw'
        obtain ⟨⟨dd, os⟩, hw''⟩ := hw'
        subst hw''
        go_wp2_with fail
        go_ret
        exact ⟨by first | rfl | trivial, below_then HB4.out (below_regrown _ _ _)⟩

end Go.Proofs.Ythmifcbhbcjeiaa
