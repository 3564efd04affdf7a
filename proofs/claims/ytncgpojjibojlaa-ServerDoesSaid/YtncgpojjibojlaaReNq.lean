/- replica.named, flag, order, May, fair: their contracts. -/
import Derived.Test.YtncgpojjibojlaaGaq
import Derived.Test.YtncgpojjibojlaaCloneReq
import Derived.Test.YtncgpojjibojlaaGjq
namespace Go.Proofs.Ytncgpojjibojlaa
open Go Go.RowKit Go.Sort

theorem sameB {P : Program} {f : FuncId} {args : Array Value} {w : World} {v : Value} (h : Calls P f args w fun e w' => e = .returned v ∧ w = w') : Calls P f args w fun e w' => e = .returned v ∧ Below w.heap.size w w' :=
  h.mono fun _ _ ⟨he, hw⟩ => ⟨he, by subst hw; exact Below.refl _ _⟩

theorem named_any (c v s : Int) (t b : Bool) (w : World) :
    Calls Try.prog 70 #[.agg #[.int .i64 c, .int .i64 v, .int .u32 s, .bool t, .bool b]] w fun e w' => e = .returned (.bool (namedB c v)) ∧ Below w.heap.size w w' := by
  by_cases h1 : c ≥ 1
  · by_cases h2 : c ≤ 1048576
    · by_cases h3 : v ≥ 1
      · by_cases h4 : v ≤ 1073741824
        · go_enter Try.func70, Try.ntmps70
          go_wp2
          go_ret
          exact ⟨by rw [show namedB c v = true from decide_eq_true ⟨⟨h1, h2⟩, h3, h4⟩]; rfl, below_one _ _⟩
        · go_enter Try.func70, Try.ntmps70
          go_wp2
          go_ret
          exact ⟨by rw [show namedB c v = false from decide_eq_false (fun h => by omega)]; rfl, below_one _ _⟩
      · go_enter Try.func70, Try.ntmps70
        go_wp2
        go_ret
        exact ⟨by rw [show namedB c v = false from decide_eq_false (fun h => by omega)]; rfl, below_one _ _⟩
    · go_enter Try.func70, Try.ntmps70
      go_wp2
      go_ret
      exact ⟨by rw [show namedB c v = false from decide_eq_false (fun h => by omega)]; rfl, below_one _ _⟩
  · go_enter Try.func70, Try.ntmps70
    go_wp2
    go_ret
    exact ⟨by rw [show namedB c v = false from decide_eq_false (fun h => by omega)]; rfl, below_one _ _⟩

theorem flag_any (t : Bool) (w : World) : Calls Try.prog 97 #[.bool t] w fun e w' => e = .returned (.int .i64 (flI t)) ∧ w = w' := by
  cases t with
  | true =>
    go_enter Try.func97, Try.ntmps97
    go_wp2
    go_ret
    exact ⟨rfl, rfl⟩
  | false =>
    go_enter Try.func97, Try.ntmps97
    go_wp2
    go_ret
    exact ⟨rfl, rfl⟩

def ordR (x y : Re) : Int := orI [cmpI x.1 y.1, cmpI (flI x.2.2.2.1) (flI y.2.2.2.1)]
theorem ordR_lt (x y : Re) : ordR x y < 0 ↔ kR x < kR y := by
  have h1 := flI_le x.2.2.2.1
  have h2 := flI_le y.2.2.2.1
  unfold ordR kR orI orI orI cmpI
  repeat' split
  all_goals (try simp)
  all_goals omega
theorem ordR_eq (x y : Re) : ordR x y = 0 ↔ kR x = kR y := by
  have h1 := flI_le x.2.2.2.1
  have h2 := flI_le y.2.2.2.1
  unfold ordR kR orI orI orI cmpI
  repeat' split
  all_goals (try simp)
  all_goals omega

set_option maxHeartbeats 1000000 in
theorem orderR_any (x y : Re) (w : World) :
    Calls Try.prog 74 #[.agg #[.int .i64 x.1, .int .i64 x.2.1, .int .u32 x.2.2.1, .bool x.2.2.2.1, .bool x.2.2.2.2], .agg #[.int .i64 y.1, .int .i64 y.2.1, .int .u32 y.2.2.1, .bool y.2.2.2.1, .bool y.2.2.2.2]] w fun e w' => e = .returned (.int .i64 (ordR x y)) ∧ Below w.heap.size w w' := by
  obtain ⟨x0, x1, x2, x3, x4⟩ := x
  obtain ⟨y0, y1, y2, y3, y4⟩ := y
  have ho : ordR (x0, x1, x2, x3, x4) (y0, y1, y2, y3, y4) = orI [cmpI x0 y0, cmpI (flI x3) (flI y3)] := rfl
  rw [ho]
  simp only
  clear ho
  go_enter Try.func74, Try.ntmps74
  go_wp2_with fail
  refine wp_region_quiet_tail (C := fun w' => ∃ n, w' = World.drewN _ n) 12 (by kernel_rfl) (by kernel_rfl) ⟨1, rfl⟩ ?_
  simp only [List.take_succ_cons, List.take_zero, List.drop_succ_cons, List.drop_zero]
  repeat (go_big_quiet_step (first | (go_at_call 96; exact Calls.quiet_of_same ((cmp_any _ _ _).mono fun _ _ h => ⟨h.1, h.2.symm⟩)) | (go_at_call 97; exact Calls.quiet_of_same ((flag_any _ _).mono fun _ _ h => ⟨h.1, h.2.symm⟩))))
  refine wpQuiet_nil ?_
  intro _ hw'
  obtain ⟨nq, hw''⟩ := hw'
  subst hw''
  go_wp2_with fail
  refine (or_any (w.heap.size + 1 + 1) 0 2 [cmpI x0 y0, cmpI (flI x3) (flI y3)] _ (by simp) ?_).mono ?_
  · intro j hj
    match j, hj with
    | 0, _ => rw [World.cell?_alloc_at _ _ _ _ (by simp)]; rfl
    | 1, _ => rw [World.cell?_alloc_at _ _ _ _ (by simp)]; rfl
  rintro e w1 ⟨rfl, rfl⟩
  go_wp2
  go_ret
  exact ⟨rfl, (below_drewN (below2 _ _ _) _).alloc (by simp; omega) _⟩

set_option maxHeartbeats 4000000 in
set_option maxRecDepth 100000 in
theorem mayR_any (v : Value) (l : List Re) (w : World) (hR : Rd w 5 v l.length (l.flatMap reC)) :
    Calls Try.prog 33 #[v] w fun e w' => e = .returned (.bool (mayR l)) ∧ Below w.heap.size w w' := by
  obtain ⟨A, cap, hv, hcap, hnc⟩ := hR.shape
  subst hv
  obtain ⟨n, hn⟩ : ∃ n, l.length = n := ⟨_, rfl⟩
  have HR := Lib.hid hR
  have HN := Lib.hid hn
  rw [hn] at hnc ⊢
  clear hR hn
  have hnm : n ≤ 9223372036854775807 := by omega
  go_enter Try.func33, Try.ntmps33
  go_wp2_with fail
  go_loopw [7] (fun s7 wr => ∃ (k : Nat), s7 = .int .i64 k ∧ k ≤ n ∧ (∀ j, j < k → okR (at_ l j) = true ∧ (0 < j → okP (at_ l (j - 1)) (at_ l j))) ∧ Below w.heap.size w wr) (fun s7 _ => n - (intOf s7).toNat)
  case atStart => exact ⟨0, rfl, by omega, fun j hj => absurd hj (by omega), Below.refl _ _⟩
  case round =>
    obtain ⟨k, rfl, hk, hall, hbel⟩ := hrel
    have HA := Lib.hid hall
    have HB := Lib.hid hbel
    clear hall hbel
    by_cases hlt : k < n
    · have hltI : (k : Int) < (n : Int) := by omega
      have hR1 := HR.out.below HB.out (Nat.le_refl _)
      rw [HN.out] at hR1
      obtain ⟨b, off, hA, hbl⟩ := hR1.addr (by omega)
      subst hA
      obtain ⟨c0, c1, c2, c3, c4⟩ := rd_re hR1 k (by rw [HN.out]; exact hlt)
      have HBD := Lib.hid (mayR_bad (l := l) (k := k) (by rw [HN.out]; exact hlt))
      obtain ⟨x, hx⟩ : ∃ x, at_ l k = x := ⟨_, rfl⟩
      rw [hx] at c0 c1 c2 c3 c4 HBD
      have hok : okR x = (namedB x.1 x.2.1 && !(x.2.2.2.1 && x.2.2.2.2)) := rfl
      obtain ⟨x0, x1, x2, x3, x4⟩ := x
      simp only at c0 c1 c2 c3 c4 hok
      have HX := Lib.hid hx
      have HOK := Lib.hid hok
      have HR1 := Lib.hid hR1
      clear hx hR1 hok
      have bx1 := Bx.new wr 52 [.int .i64 x0, .int .i64 x1, .int .u32 x2, .bool x3, .bool x4]
      change Bx (wr.alloc (.cells #[.int .i64 x0, .int .i64 x1, .int .u32 x2, .bool x3, .bool x4] 52)) _ _ _ at bx1
      have BX1 := Lib.hid bx1
      have HB1 := Lib.hid (below_then HB.out (below_one wr (.cells #[.int .i64 x0, .int .i64 x1, .int .u32 x2, .bool x3, .bool x4] 52)))
      have HR2 := Lib.hid (HR1.out.alloc (.cells #[.int .i64 x0, .int .i64 x1, .int .u32 x2, .bool x3, .bool x4] 52))
      clear bx1 HR1
      go_wp2_with fail
      clear c0 c1 c2 c3 c4
      obtain ⟨bb, hbb⟩ : ∃ b, wr.heap.size = b := ⟨_, rfl⟩
      rw [hbb] at BX1 ⊢
      generalize (wr.alloc (.cells #[.int .i64 x0, .int .i64 x1, .int .u32 x2, .bool x3, .bool x4] 52)) = w1 at *
      refine (named_any x0 x1 x2 x3 x4 w1).mono ?_
      rintro e w2 ⟨rfl, hb2⟩
      have BX2 := Lib.hid (BX1.out.below' hb2)
      have HB2 := Lib.hid (below_then HB1.out hb2)
      have HR3 := Lib.hid (HR2.out.below hb2 (Nat.le_refl _))
      obtain ⟨nb, hnb⟩ : ∃ r, namedB x0 x1 = r := ⟨_, rfl⟩
      rw [hnb] at HOK ⊢
      obtain ⟨q0, q1, q2, q3, q4⟩ := BX2.out.five
      clear hb2 hnb hbb BX1 HB1 HR2
      cases nb with
      | false =>
        go_wp2_with fail
        go_ret
        refine ⟨?_, HB2.out⟩
        rw [HBD.out (fun h => by rw [HOK.out] at h; simp at h)]; rfl
      | true =>
        by_cases htb : x3 = true ∧ x4 = true
        · obtain ⟨rfl, rfl⟩ := htb
          go_wp2_with fail
          go_ret
          refine ⟨?_, HB2.out⟩
          rw [HBD.out (fun h => by rw [HOK.out] at h; simp at h)]; rfl
        · have hok2 : Hid (okR (x0, x1, x2, x3, x4) = true) := by
            have h3 := HOK.out
            have : okR (x0, x1, x2, x3, x4) = true := by rw [h3]; cases x3 <;> cases x4 <;> simp at htb ⊢
            exact this
          have hcase : x3 = false ∨ (x3 = true ∧ x4 = false) := by cases x3 <;> cases x4 <;> simp at htb ⊢
          clear htb HOK
          by_cases hk0 : 0 < k
          · have hk0I : (0 : Int) < (k : Int) := by omega
            obtain ⟨z0, z1, z2, z3, z4⟩ := rd_re HR3.out (k - 1) (by rw [HN.out]; omega)
            have HPP : Hid (at_ l (k - 1) = at_ l (k - 1)) := Lib.hid rfl
            obtain ⟨z, hz⟩ : ∃ z, at_ l (k - 1) = z := ⟨_, rfl⟩
            rw [hz] at z0 z1 z2 z3 z4 HBD
            have CO := fun (w' : World) => orderR_any z (x0, x1, x2, x3, x4) w'
            have HLT := Lib.hid (ordR_lt z (x0, x1, x2, x3, x4))
            obtain ⟨oo, hoo⟩ : ∃ o, ordR z (x0, x1, x2, x3, x4) = o := ⟨_, rfl⟩
            rw [hoo] at HLT
            simp only [hoo] at CO
            obtain ⟨y0, y1, y2, y3, y4⟩ := z
            simp only at z0 z1 z2 z3 z4 CO
            have HZ := Lib.hid hz
            clear hz hoo HPP
            obtain ⟨j, rfl⟩ : ∃ j, k = j + 1 := ⟨k - 1, by omega⟩
            simp only [Nat.add_sub_cancel] at z0 z1 z2 z3 z4 HZ
            have F0 := fun d os => cell_regrown z0 d os
            have F1 := fun d os => cell_regrown z1 d os
            have F2 := fun d os => cell_regrown z2 d os
            have F3 := fun d os => cell_regrown z3 d os
            have F4 := fun d os => cell_regrown z4 d os
            have G0 := fun d os => cell_regrown q0 d os
            have G1 := fun d os => cell_regrown q1 d os
            have G2 := fun d os => cell_regrown q2 d os
            have G3 := fun d os => cell_regrown q3 d os
            have G4 := fun d os => cell_regrown q4 d os
            have KEY : Hid (∀ (K : Prop), K → K) := Lib.hid (fun _ h => h)
            by_cases ho : oo ≥ 0
            · rcases hcase with rfl | ⟨rfl, rfl⟩
              all_goals
                go_wp2_with fail
                refine wp_region_quiet_below (by kernel_rfl) (by kernel_rfl) ?_
                repeat (go_big_quiet_step ((go_at_call 74; exact Calls.regrown_of (CO _))))
                refine wpQuiet_nil ?_
                intro _ hw'
                obtain ⟨⟨dd, os⟩, hw''⟩ := hw'
                subst hw''
                go_wp2_with fail
                go_ret
                refine ⟨?_, below_then HB2.out (below_regrown _ _ _)⟩
                rw [HBD.out (fun h => by have h5 := HLT.out.2 (h.2 (by omega)).1; omega)]; rfl
            · have ho' : ¬ oo ≥ 0 := ho
              have hkz := HLT.out.1 (by omega)
              have HKZ := Lib.hid hkz
              clear hkz
              have hrel : Hid (((y0 = x0 → y1 < x1)) → ∀ i, i < j + 1 + 1 → okR (at_ l i) = true ∧ (0 < i → okP (at_ l (i - 1)) (at_ l i))) := fun hv i hi => by
                by_cases e : i = j + 1
                · subst e
                  refine ⟨by rw [HX.out]; exact hok2.out, fun h0 => ?_⟩
                  rw [Nat.add_sub_cancel, HX.out, HZ.out]
                  exact ⟨HKZ.out, hv⟩
                · exact HA.out i (by omega)
              by_cases he : y0 = x0
              · subst he
                by_cases hv : x1 ≤ y1
                · have hdum := hv
                  rcases hcase with rfl | ⟨rfl, rfl⟩
                  all_goals
                    go_wp2_with fail
                    refine wp_region_quiet_below (by kernel_rfl) (by kernel_rfl) ?_
                    repeat (go_big_quiet_step ((go_at_call 74; exact Calls.regrown_of (CO _))))
                    refine wpQuiet_nil ?_
                    intro _ hw'
                    obtain ⟨⟨dd, os⟩, hw''⟩ := hw'
                    subst hw''
                    have HB3 := Lib.hid (below_then HB2.out (below_regrown w2 dd os))
                    have z0' := F0 dd os
                    have z1' := F1 dd os
                    have q0' := G0 dd os
                    have q1' := G1 dd os
                    generalize Go.Sort.grow (redrawn w2 dd) os = w3 at *
                    clear F0 F1 F2 F3 F4 G0 G1 G2 G3 G4 CO z0 z1 z2 z3 z4 q0 q1 q2 q3 q4
                    go_wp2_with fail
                    go_quiet (fail)
                    go_wp2_with fail
                    go_ret
                    refine ⟨?_, below_drewN HB3.out _⟩
                    rw [HBD.out (fun h => by have h5 := (h.2 (by omega)).2 rfl; simp only at h5; omega)]; rfl
                · have hv' : ¬ x1 ≤ y1 := hv
                  rcases hcase with rfl | ⟨rfl, rfl⟩
                  all_goals
                    go_wp2_with fail
                    refine wp_region_quiet_below (by kernel_rfl) (by kernel_rfl) ?_
                    repeat (go_big_quiet_step ((go_at_call 74; exact Calls.regrown_of (CO _))))
                    refine wpQuiet_nil ?_
                    intro _ hw'
                    obtain ⟨⟨dd, os⟩, hw''⟩ := hw'
                    subst hw''
                    have HB3 := Lib.hid (below_then HB2.out (below_regrown w2 dd os))
                    have z0' := F0 dd os
                    have z1' := F1 dd os
                    have q0' := G0 dd os
                    have q1' := G1 dd os
                    generalize Go.Sort.grow (redrawn w2 dd) os = w3 at *
                    clear F0 F1 F2 F3 F4 G0 G1 G2 G3 G4 CO z0 z1 z2 z3 z4 q0 q1 q2 q3 q4
                    go_wp2_with fail
                    go_quiet (fail)
                    go_wp2_with fail
                    go_roundw
                    case rel => exact ⟨j + 1 + 1, by go_num, by omega, hrel.out (fun _ => by omega), below_drewN HB3.out _⟩
                    case measure => simp [intOf]; omega
              · have he' : (y0 == x0) = false := by simpa using he
                rcases hcase with rfl | ⟨rfl, rfl⟩
                all_goals
                  go_wp2_with fail
                  refine wp_region_quiet_below (by kernel_rfl) (by kernel_rfl) ?_
                  repeat (go_big_quiet_step ((go_at_call 74; exact Calls.regrown_of (CO _))))
                  refine wpQuiet_nil ?_
                  intro _ hw'
                  obtain ⟨⟨dd, os⟩, hw''⟩ := hw'
                  subst hw''
                  have HB3 := Lib.hid (below_then HB2.out (below_regrown w2 dd os))
                  have z0' := F0 dd os
                  have z1' := F1 dd os
                  have q0' := G0 dd os
                  have q1' := G1 dd os
                  generalize Go.Sort.grow (redrawn w2 dd) os = w3 at *
                  clear F0 F1 F2 F3 F4 G0 G1 G2 G3 G4 CO z0 z1 z2 z3 z4 q0 q1 q2 q3 q4
                  go_wp2_with fail
                  go_quiet (fail)
                  go_wp2_with fail
                  go_roundw
                  case rel => exact ⟨j + 1 + 1, by go_num, by omega, hrel.out (fun h => absurd h he), below_drewN HB3.out _⟩
                  case measure => simp [intOf]; omega
          · obtain rfl : k = 0 := by omega
            have hrel : Hid (∀ i, i < 1 → okR (at_ l i) = true ∧ (0 < i → okP (at_ l (i - 1)) (at_ l i))) := fun i hi => by
              obtain rfl : i = 0 := by omega
              exact ⟨by rw [HX.out]; exact hok2.out, fun h0 => absurd h0 (by omega)⟩
            rcases hcase with rfl | ⟨rfl, rfl⟩
            all_goals
              go_wp2_with fail
              go_quiet (fail)
              go_wp2_with fail
              go_quiet (fail)
              go_wp2_with fail
              go_roundw
              case rel => exact ⟨1, by go_num, by omega, hrel.out, below_drewN HB2.out _⟩
              case measure => simp [intOf]; omega
    · obtain rfl : k = n := by omega
      go_wp2_with fail
      go_ret
      exact ⟨by rw [mayR_good (l := l) (by rw [HN.out]; exact HA.out)]; rfl, HB.out⟩

/-- A list of replicas of the call's own, laid anew. -/
def FreshR (l : List Re) (w : World) (en : Ending) (w' : World) : Prop := ∃ v', en = .returned v' ∧ Own w' w.heap.size 52 5 v' l.length (l.flatMap reC) ∧ Below w.heap.size w w'

theorem fairR_any (v : Value) (l : List Re) (w : World) (hl : l.length ≤ 1000) (hR : Rd w 5 v l.length (l.flatMap reC)) :
    Calls Try.prog 69 #[v] w (FreshR (fairR l) w) := by
  have HR := Lib.hid hR
  clear hR
  go_enter Try.func69, Try.ntmps69
  go_wp2_with fail
  refine (mayR_any v l w HR.out).mono ?_
  rintro e w1 ⟨rfl, hb1⟩
  have HB1 := Lib.hid hb1
  have HR1 := Lib.hid (HR.out.below hb1 (Nat.le_refl _))
  have hf : fairR l = if mayR l then l else [] := rfl
  have HF := Lib.hid hf
  obtain ⟨b, hb⟩ : ∃ b, mayR l = b := ⟨_, rfl⟩
  rw [hb] at HF ⊢
  clear hb1 hb hf
  cases b with
  | false =>
    go_wp2_with fail
    go_ret
    refine ⟨_, rfl, ?_, HB1.out⟩
    rw [HF.out]
    exact Own.nil_ _ _ _ _
  | true =>
    go_wp2_with fail
    refine (clone_re v l w1 hl HR1.out).mono ?_
    rintro e w2 ⟨v2, rfl, ho2, hb2⟩
    have HO2 := Lib.hid ho2
    have HB2 := Lib.hid (below_then HB1.out hb2)
    have hs1 := HB1.out.size
    clear ho2 hb2
    go_wp2_with fail
    go_ret
    refine ⟨_, rfl, ?_, HB2.out⟩
    rw [HF.out]
    exact HO2.out.mono hs1

end Go.Proofs.Ytncgpojjibojlaa
