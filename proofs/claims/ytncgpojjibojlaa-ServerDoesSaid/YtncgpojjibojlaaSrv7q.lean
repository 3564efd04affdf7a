/- The iterator over the held ones: what it gives to a loop over it. -/
import Derived.Test.YtncgpojjibojlaaGdq
namespace Go.Proofs.Ytncgpojjibojlaa
open Go Go.RowKit Go.Sort
attribute [local go_sem] Oper.semAt_some

theorem exec_lookup {P : Program} {o : Oper} {a : Act} {m x : Operand} {t : TypeId} (hop : o.op = Op.lookup t m x false) {mv key : Value} (hm : a.eval m = mv) (hx : a.eval x = key) {v : Value} {w : World} (hrun : (Instr.lookup t mv key false).run P w = .ok v w) :
    (execOp a.eval o).run P w = .ok (.value v) w := by
  simp [execOp, hop, hm, hx, hrun, Result.andThen]

def IterE (J Jx : List Rb → World → Prop) (s : Sv) (e : Ending) (W' : World) : Prop :=
  (∃ v, e = .returned v) ∧ ((∃ xs, xs = fullS s ∧ J xs W') ∨ (∃ pre, pre <+: fullS s ∧ Jx pre W'))

set_option maxHeartbeats 4000000 in
set_option maxRecDepth 100000 in
theorem held_stops (n : Nat) (hn : 1 ≤ n) (p k Bs n₀ : Nat) (s : Sv) (G : Nat → Prop) (lv : Value) (mb : Nat) (F : Int → Bool → Value) (w : World) (hok : OkS s) (h : SrvV w G p k s lv mb F) (hbs : Bx w Bs 25 [.pointer (some ⟨p, 0, none⟩)]) (hm : mb < n₀) :
    SeqStopsK Fence.wide n Try.prog 90 #[.pointer (some ⟨Bs, 0, none⟩)] rbE (KpT n₀) (fun ys => ys = fullS s) (fun pre => pre <+: fullS s) (fullS s).length w := fun l J Jx W hW hJ hJx hY h0 => by
  refine callsIn_wide.2 ?_
  show Calls Try.prog 90 #[.func (.yield l) #[] #[], .pointer (some ⟨Bs, 0, none⟩)] W (IterE J Jx s)
  have HH := Lib.hid (h.below' hW)
  have HBS := Lib.hid (hbs.below' hW)
  have HY := Lib.hid hY
  have HJ := Lib.hid hJ
  have H0 := Lib.hid h0
  have HOK := Lib.hid hok
  have hl16 := hok.l16
  obtain ⟨q0, q1, q2⟩ := HH.out.box.three
  have b0 := HBS.out.cell 0
  simp only [List.getElem?_cons_zero] at b0
  have HO := Lib.hid HH.out.own.rd
  clear h hbs hY hJ hJx h0 hok hW
  go_enter Try.func90, Try.ntmps90
  go_wp2_with fail
  refine (restart_any lv s.l W (by omega) HO.out).mono ?_
  rintro e w1 ⟨v1, rfl, ho1, hb1⟩
  obtain ⟨A1, cap1, e1⟩ := ho1.slice_
  subst e1
  have hcap1 := ho1.rd.shape
  obtain ⟨n1, hn1⟩ : ∃ n1, (rstR s.l).length = n1 := ⟨_, rfl⟩
  have hn1l : n1 ≤ 16 := by
    rw [← hn1]
    unfold rstR
    rw [HOK.out.fair]
    have := List.length_filter_le (fun z : Re => !z.2.2.2.1) s.l
    omega
  rw [hn1] at ho1 ⊢
  have HN := Lib.hid hn1
  have HO1 := Lib.hid (ho1.mono (base' := 0) (Nat.zero_le _))
  have HH1 := Lib.hid (HH.out.below' hb1)
  have HBS1 := Lib.hid (HBS.out.below' hb1)
  have HJ1 := Lib.hid (abide_below HJ.out H0.out hb1)
  clear ho1 hb1 q0 q1 q2 b0 hn1 hcap1
  go_wp2_with fail
  go_loopw [11] (fun s11 wr => ∃ j : Nat, j ≤ n1 ∧ s11 = .int .i64 j ∧ J ((fullS s).take j) wr ∧ SrvV wr G p k s lv mb F ∧ Own wr 0 52 5 (.slice A1 n1 cap1) n1 ((rstR s.l).flatMap reC) ∧ Bx wr Bs 25 [.pointer (some ⟨p, 0, none⟩)]) (fun s11 _ => n1 - (intOf s11).toNat)
  case atStart => exact ⟨0, Nat.zero_le _, rfl, HJ1.out, HH1.out, HO1.out, HBS1.out⟩
  case round =>
    obtain ⟨j, hj, rfl, hJr, hHr, hOr, hBr⟩ := hrel
    have HJr := Lib.hid hJr
    have HHr := Lib.hid hHr
    have HOr := Lib.hid hOr
    have HBr := Lib.hid hBr
    clear hJr hHr hBr
    by_cases hlt : j < n1
    · have hltI : (j : Int) < (n1 : Int) := by omega
      have hR1 := hOr.rd
      obtain ⟨b, off, hA, hbl⟩ := hR1.addr (by omega)
      subst hA
      obtain ⟨c0, c1, c2, c3, c4⟩ := rd_re hR1 j (by rw [HN.out]; exact hlt)
      have htk := fullS_take s (j := j) (by rw [HN.out]; exact hlt)
      have hmem := at_mem (l := rstR s.l) (i := j) (by rw [HN.out]; exact hlt)
      obtain ⟨x, hx⟩ : ∃ x, at_ (rstR s.l) j = x := ⟨_, rfl⟩
      rw [hx] at c0 c1 c2 c3 c4 htk hmem
      have hnm := HOK.out.named ((rst_mem HOK.out).1 hmem).1
      obtain ⟨x0, x1, x2, x3, x4⟩ := x
      simp only at c0 c1 c2 c3 c4 hnm
      have HW : Hid (wfI x0) := wf_i64 (by omega) (by omega)
      have HTK := Lib.hid htk
      have hal := below_one wr (.cells #[.int .i64 x0, .int .i64 x1, .int .u32 x2, .bool x3, .bool x4] 52)
      have hbx := Bx.new wr 52 [.int .i64 x0, .int .i64 x1, .int .u32 x2, .bool x3, .bool x4]
      change Bx (wr.alloc (.cells #[.int .i64 x0, .int .i64 x1, .int .u32 x2, .bool x3, .bool x4] 52)) _ _ _ at hbx
      clear hR1 htk hmem hx hnm
      go_wp2_with fail
      generalize (wr.alloc (.cells #[.int .i64 x0, .int .i64 x1, .int .u32 x2, .bool x3, .bool x4] 52)) = w2 at *
      obtain ⟨xb, hxb⟩ : ∃ xb, wr.heap.size = xb := ⟨_, rfl⟩
      have HAL := Lib.hid hal
      rw [hxb] at hbx ⊢
      have HH2 := Lib.hid (HHr.out.below' hal)
      have HB2 := Lib.hid (HBr.out.below' hal)
      have HX2 := Lib.hid hbx
      obtain ⟨d0, d1, d2, d3, d4⟩ := hbx.five
      obtain ⟨q0, q1, q2⟩ := HH2.out.box.three
      have b0 := HB2.out.cell 0
      simp only [List.getElem?_cons_zero] at b0
      have D0 := fun dd os => cell_regrown d0 dd os
      have D1 := fun dd os => cell_regrown d1 dd os
      have D2 := fun dd os => cell_regrown d2 dd os
      have D3 := fun dd os => cell_regrown d3 dd os
      have D4 := fun dd os => cell_regrown d4 dd os
      have B0 := fun dd os => cell_regrown b0 dd os
      have Q2 := fun dd os => cell_regrown q2 dd os
      have SU := fun (w' : World) (hb : Below w2.heap.size w2 w') => sum_any (F x0 false) (s.f x0 false) w' (HOK.out.bytes x0 false).2 ((HH2.out.below' hb).row x0 false HW.out).rd
      have HSU := Lib.hid SU
      clear hal hbx hOr c0 c1 c2 c3 c4 d0 d1 d2 d3 d4 q0 q1 q2 b0 SU
      refine (wpIn_wide (n := n)).1 ?_
      refine wpIn_region_quiet_tail (Widish.wide _) (C := fun w' => ∃ p : Regrown, w' = Go.Sort.grow (redrawn w2 p.d) p.os) 14 (by kernel_rfl) (by kernel_rfl) (by kernel_rfl) ⟨⟨w2.drawn + 1, #[]⟩, by rw [grow_empty]; rfl⟩ ?_
      simp only [List.take_succ_cons, List.take_zero, List.drop_succ_cons, List.drop_zero]
      repeat (go_big_quiet_step (fail))
      refine wpQuiet_known rfl (F x0 false) (fun w' hw' => ?_) ?_
      · obtain ⟨⟨dd, os⟩, rfl⟩ := hw'
        exact exec_lookup rfl rfl rfl ((HH2.out.map.below' (below_regrown _ _ _)).run_lookup x0 false HW.out)
      intro a' ha'
      simp only [Act.put, List.setIfInBounds_toArray, List.set_cons_zero, List.set_cons_succ] at ha'
      subst ha'
      go_big_quiet_step ((go_at_call 27; exact Calls.regrown_of (HSU.out _ (below_regrown _ _ _))))
      repeat (go_big_quiet_step (fail))
      refine wpQuiet_nil ?_
      intro _ hw'
      obtain ⟨⟨dd, os⟩, hw''⟩ := hw'
      subst hw''
      have hbw := below_regrown w2 dd os
      have HH3 := Lib.hid (HH2.out.below' hbw)
      have HB3 := Lib.hid (HB2.out.below' hbw)
      have HO3 := Lib.hid ((HOr.out.below HAL.out (Nat.le_refl _)).below hbw (Nat.le_refl _))
      have HJ3 := Lib.hid (abide_below HJ.out (abide_below HJ.out HJr.out HAL.out) hbw)
      clear D0 D1 D2 D3 D4 B0 Q2 HH2 HB2 HOr HJr HHr HBr HAL HX2
      generalize Go.Sort.grow (redrawn w2 dd) os = w3 at *
      obtain ⟨fn, tmps, assign, body, hy, hR⟩ := HY.out _ ((x0, x1, x2, x3, x4), spoiltS s (x0, x1, x2, x3, x4)) w3 HJ3.out (by rw [List.length_take, fullS_len, HN.out]; omega)
      dsimp only [rbE, reV] at hy
      have hsp : spoiltS s (x0, x1, x2, x3, x4) = (((sumC (s.f x0 false) : Nat) : Int) != x2) := by
        unfold spoiltS
        rw [Bool.eq_iff_iff]
        simp
      rw [hsp] at hy
      have HT := Lib.hid HTK.out
      clear hsp HTK hxb
      gi_wp2
      refine hR.mono ?_
      rintro e W3 (⟨rfl, hJ4, hk4⟩ | ⟨rfl, hJx4⟩)
      · rw [← HT.out] at hJ4
        have HJ4 := Lib.hid hJ4
        have HH4 := Lib.hid (HH3.out.kp hk4 hm)
        have HB4 := Lib.hid (HB3.out.kp hk4 (by decide) (by decide))
        have HO4 := Lib.hid (HO3.out.kp hk4 (by decide) (by decide))
        clear hJ4 hk4 hR hy
        gi_wp2
        go_wp2_with fail
        go_roundw
        case rel => exact ⟨j + 1, by omega, by go_num, HJ4.out, HH4.out, HO4.out, HB4.out⟩
        case measure => simp [intOf]; omega
      · rw [← HT.out] at hJx4
        have HJ4 := Lib.hid hJx4
        clear hJx4 hR hy
        gi_wp2
        go_wp2_with fail
        refine bodyPost_ret (results_none rfl _ _ _) rfl ?_
        exact ⟨⟨_, rfl⟩, .inr ⟨_, List.take_prefix _ _, HJ4.out⟩⟩
    · obtain rfl : j = n1 := by omega
      go_wp2_with fail
      go_end0
      have ht : (fullS s).take j = fullS s := by rw [← HN.out, ← fullS_len, List.take_length]
      exact ⟨⟨_, rfl⟩, .inl ⟨_, rfl, by rw [← ht]; exact HJr.out⟩⟩

end Go.Proofs.Ytncgpojjibojlaa
