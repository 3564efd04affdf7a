/- place.worth: its contract. -/
import Derived.Test.YthmifcbhbcjeiaaPlace2
namespace Go.Proofs.Ythmifcbhbcjeiaa
open Go Go.RowKit Go.Maps Go.WideMaps Go.Sort

theorem OldM.alloc {w : World} {b n : Nat} {rs : List Int} (h : OldM w b n rs) (o : Obj) : OldM (w.alloc o) b n rs := World.ownsMap.alloc h o

theorem cSum_fl : ∀ m : Fin 17, cSumBits .add .f64 0 (fl (m.val : Int)) f1 0 = some (f1, fl (m.val : Int)) := of_decide_eq_true (by kernel_rfl)

set_option maxHeartbeats 1000000 in
set_option maxRecDepth 100000 in
theorem worth_any (x : Nq) (vd : Value) (ld : List Ld) (mb mn : Nat) (rs : List Int) (w : World) (hD : Rd w 2 vd ld.length (ld.flatMap ldC)) (hO : OldM w mb mn rs) (hwf : (Lit.int .i64 x.2.1).wf = true)
    (hok : hasB rs x.2.1 = true → 0 ≤ minI (loadL ld x.1) x.2.2.1 ∧ minI (loadL ld x.1) x.2.2.1 ≤ 16) :
    Calls Try.prog 49 #[.agg #[.int .i64 x.1, .int .i64 x.2.1, .int .i64 x.2.2.1, .int .i64 x.2.2.2], vd, .map (some mb)] w fun e w' =>
      e = .returned (.complex .f64 (wRe (hasB rs x.2.1)) (fl (minI (loadL ld x.1) x.2.2.1))) ∧ Below w.heap.size w w' := by
  obtain ⟨x0, x1, x2, x3⟩ := x
  simp only at hwf hok ⊢
  have HOK := Lib.hid hok
  have HO := Lib.hid hO
  have HW := Lib.hid hwf
  have CD := fun (w' : World) (hb : Below w.heap.size w w') => load_any vd ld x0 w' (hD.below hb (Nat.le_refl _))
  obtain ⟨nl, hnl⟩ : ∃ n, loadL ld x0 = n := ⟨_, rfl⟩
  rw [hnl] at CD HOK ⊢
  obtain ⟨bo, hbo⟩ : ∃ b, hasB rs x1 = b := ⟨_, rfl⟩
  have HBO := Lib.hid hbo
  rw [hbo] at HOK ⊢
  obtain ⟨m, hm⟩ : ∃ m, minI nl x2 = m := ⟨_, rfl⟩
  rw [hm] at HOK ⊢
  have hmi : (if x2 < nl then x2 else nl) = m := hm
  clear hbo hm
  have hal := below_one w (.cells #[.int .i64 x0, .int .i64 x1, .int .i64 x2, .int .i64 x3] 28)
  have HAL := Lib.hid hal
  have hbx := Bx.new w 28 [.int .i64 x0, .int .i64 x1, .int .i64 x2, .int .i64 x3]
  obtain ⟨q0, q1, q2, q3⟩ := hbx.four
  have F0 := fun d os => cell_regrown q0 d os
  have F1 := fun d os => cell_regrown q1 d os
  have F2 := fun d os => cell_regrown q2 d os
  clear hok hO hwf hD hnl q0 q1 q2 q3 hal hbx
  go_enter Try.func49, Try.ntmps49
  go_wp2_with fail
  refine wp_region_quiet_tail (C := fun w' => ∃ p : Regrown, w' = Go.Sort.grow (redrawn (w.alloc (.cells #[.int .i64 x0, .int .i64 x1, .int .i64 x2, .int .i64 x3] 28)) p.d) p.os) 6 (by kernel_rfl) (by kernel_rfl) ⟨⟨w.drawn + 1, #[]⟩, by rw [grow_empty]; rfl⟩ ?_
  simp only [List.take_succ_cons, List.take_zero, List.drop_succ_cons, List.drop_zero]
  repeat (go_big_quiet_step ((go_at_call 31; exact Calls.regrown_of (CD _ (below_then HAL.out (below_regrown _ _ _))))))
  refine wpQuiet_nil ?_
  intro _ hw'
  obtain ⟨⟨dd, os⟩, hw''⟩ := hw'
  subst hw''
  have HB1 := Lib.hid (below_then HAL.out (below_regrown _ dd os))
  have HO1 := Lib.hid (HO.out.below HB1.out)
  have g1 := F1 dd os
  clear F0 F1 F2 CD HAL HO
  generalize Go.Sort.grow (redrawn (w.alloc (.cells #[.int .i64 x0, .int .i64 x1, .int .i64 x2, .int .i64 x3] 28)) dd) os = w1 at *
  have hcv := fun (w : World) (n : Int) => run_convert_int_float (P := Try.prog) w 3 78 .i64 .f64 n (by kernel_rfl) Try.underlying78
  cases bo with
  | false =>
    go_wp2_with (at_lookup; refine wpList_lookup_old _ rfl _ _ rfl mb mn rs rfl HO1.out x1 rfl HW.out ?_; rw [HBO.out])
    go_ret
    exact ⟨rfl, HB1.out⟩
  | true =>
    obtain ⟨h0, h1⟩ := HOK.out rfl
    have hs : cSumBits .add .f64 0 (fl m) f1 0 = some (f1, fl m) := by
      obtain ⟨k, rfl⟩ : ∃ k : Nat, m = (k : Int) := ⟨m.toNat, by omega⟩
      exact cSum_fl ⟨k, by omega⟩
    have hadd := fun (w : World) => run_complex_sum (P := Try.prog) w .add (.inl rfl) 65 .f64 0 (fl m) f1 0 f1 (fl m) hs
    clear h0 h1 hs
    have hfl : floatOfInt .f64 m = fl m := rfl
    have hf1 : (4607182418800017408 : Nat) = f1 := rfl
    have HH := Lib.hid hf1
    clear hf1
    unfold f1 at hadd
    go_wp2_with (at_lookup; refine wpList_lookup_old _ rfl _ _ rfl mb mn rs rfl HO1.out x1 rfl HW.out ?_; rw [HBO.out])
    go_ret
    exact ⟨rfl, HB1.out⟩

end Go.Proofs.Ythmifcbhbcjeiaa
