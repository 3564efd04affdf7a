/- sutureref16: Target, More: their contracts. -/
import Derived.Test.YthmifcbhbcjeiaaRef16
namespace Go.Proofs.Ythmifcbhbcjeiaa
open Go Go.RowKit Go.Sort

theorem tgt_fair (l : List Nq) (al : List Int) (ld : List Ld) (ho : List Int) : tgtL (fairL l) al ld ho = tgtL l al ld ho := by
  by_cases hm : mayL l = true
  · rw [fairL_of hm]
  · have e : fairL l = [] := by unfold fairL; rw [if_neg hm]
    rw [e]
    cases ht : tgtL l al ld ho with
    | none => rfl
    | some a =>
      obtain ⟨ha, hmy⟩ := tgtL_ok ht
      exact absurd (mayT_spec ha hmy).1 hm

/-- The place of the best one so far. -/
def PlB (l : List Nq) (k : Nat) (acc : Option Nq) (bi : Int) : Prop := (acc = none ∧ bi = -1) ∨ ∃ j : Nat, j < k ∧ bi = j ∧ acc = some (at_ l j)

set_option maxHeartbeats 4000000 in
set_option maxRecDepth 100000 in
theorem rtarget_any (v va vd vh : Value) (l0 : List Nq) (al : List Int) (ld : List Ld) (ho : List Int) (w : World) (hl : l0.length ≤ 1000)
    (hR : Rd w 4 v l0.length (l0.flatMap noC)) (hA : Rd w 1 va al.length (al.flatMap inC)) (hD : Rd w 2 vd ld.length (ld.flatMap ldC)) (hH : Rd w 1 vh ho.length (ho.flatMap inC)) :
    Calls Try.prog 36 #[v, va, vd, vh] w fun e w' => e = .returned (.tuple #[.int .i64 (idO (tgtL l0 al ld ho)), .bool (tgtL l0 al ld ho).isSome]) ∧ Below w.heap.size w w' := by
  have hfl := fairL_len l0
  have HR := Lib.hid hR
  have HA := Lib.hid hA
  have HD := Lib.hid hD
  have HH := Lib.hid hH
  clear hR hA hD hH
  rw [← tgt_fair l0]
  go_enter Try.func36, Try.ntmps36
  go_wp2_with fail
  refine (refFair_any v l0 w HR.out).mono ?_
  rintro e w1 ⟨v1, rfl, hR1, hb1⟩
  obtain ⟨l, hl1⟩ : ∃ l, fairL l0 = l := ⟨_, rfl⟩
  rw [hl1] at hR1 hfl
  have HL1 := Lib.hid hl1
  clear hl1
  obtain ⟨A, cap, hv, hcap, hnc⟩ := hR1.shape
  obtain ⟨n, hn⟩ : ∃ n, l.length = n := ⟨_, rfl⟩
  have HR1 := Lib.hid hR1
  have HB1 := Lib.hid hb1
  have HN := Lib.hid hn
  rw [hn] at hv hnc hfl
  subst hv
  clear hR1 hb1 hn
  go_wp2_with fail
  go_loopw [11, 12] (fun s11 s12 wr => ∃ (k : Nat) (acc : Option Nq) (bi : Int), k ≤ n ∧ s12 = .int .i64 k ∧ s11 = .int .i64 bi ∧ tgtK l al ld ho k = acc ∧ PlB l k acc bi ∧ Below w1.heap.size w1 wr) (fun _ s12 _ => n - (intOf s12).toNat)
  case atStart => exact ⟨0, none, -1, Nat.zero_le _, rfl, rfl, rfl, .inl ⟨rfl, rfl⟩, Below.refl _ _⟩
  case round =>
    obtain ⟨k, acc, bi, hk, rfl, rfl, ht, hpl, hbel⟩ := hrel
    have HT := Lib.hid ht
    have HPL := Lib.hid hpl
    have HB := Lib.hid hbel
    have HBW := Lib.hid (below_then HB1.out hbel)
    clear ht hpl hbel
    by_cases hlt : k < n
    · have hltI : (k : Int) < (n : Int) := by omega
      have hR2 := HR1.out.below HB.out (Nat.le_refl _)
      rw [HN.out] at hR2
      obtain ⟨b, off, hAd, hbl⟩ := hR2.addr (by omega)
      subst hAd
      obtain ⟨c0, c1, c2, c3⟩ := rd_no hR2 k (by rw [HN.out]; exact hlt)
      obtain ⟨x, hx⟩ : ∃ x, at_ l k = x := ⟨_, rfl⟩
      have HXK := Lib.hid hx
      have HST : Hid (tgtK l al ld ho (k + 1) = stepT l al ld ho acc x) := by
        have := tgtK_step (l := l) (al := al) (ld := ld) (ho := ho) (k := k) (by rw [HN.out]; exact hlt)
        rw [HT.out, hx] at this
        exact this
      rw [hx] at c0 c1 c2 c3
      clear hx hR2 c2 c3
      obtain ⟨x0, x1, x2, x3⟩ := x
      simp only at c0 c1
      have HR1' : Hid (Rd w1 4 (.slice (some ⟨b, off, none⟩) n cap) l.length (l.flatMap noC)) := HR1.out
      go_wp2_with fail
      refine (rmay_any _ va vd vh l al ld ho x0 wr (HR1'.out.below HB.out (Nat.le_refl _)) (HA.out.below HBW.out (Nat.le_refl _)) (HD.out.below HBW.out (Nat.le_refl _)) (HH.out.below HBW.out (Nat.le_refl _))).mono ?_
      rintro e w2 ⟨rfl, hb2⟩
      have HB2 := Lib.hid (below_then HB.out hb2)
      have HBW2 := Lib.hid (below_then HBW.out hb2)
      have hs2 := hb2.size
      obtain ⟨bm, hbm⟩ : ∃ b, mayT l al ld ho x0 = b := ⟨_, rfl⟩
      rw [hbm]
      have HS2 : Hid (stepT l al ld ho acc (x0, x1, x2, x3) = if bm && beats l ld ho (x0, x1, x2, x3) acc then some (x0, x1, x2, x3) else acc) := by
        unfold stepT
        rw [show mayT l al ld ho (x0, x1, x2, x3).1 = bm from hbm]
        exact rfl
      clear hbm hb2 c0 c1
      cases bm with
      | false =>
        go_wp2_with fail
        go_roundw
        case rel => exact ⟨k + 1, acc, bi, by omega, by go_num, rfl, by rw [HST.out, HS2.out]; exact rfl, HPL.out.imp id (fun ⟨j, h1, h2⟩ => ⟨j, by omega, h2⟩), HB2.out⟩
        case measure => simp [intOf]; omega
      | true =>
        rcases HPL.out with ⟨hac, hbi⟩ | ⟨j, hj, hbi, hac⟩
        · subst hac hbi
          go_wp2_with fail
          go_roundw
          case rel => exact ⟨k + 1, some (x0, x1, x2, x3), k, by omega, by go_num, rfl, by rw [HST.out, HS2.out]; exact rfl, .inr ⟨k, by omega, rfl, by rw [HXK.out]⟩, HB2.out⟩
          case measure => simp [intOf]; omega
        · subst hbi
          have hjn : j < n := by omega
          have hjI : (j : Int) < (n : Int) := by omega
          have hj0 : ¬ (j : Int) < 0 := by omega
          have hRj := HR1'.out.below HB2.out (Nat.le_refl _)
          obtain ⟨c0, c1, c2, c3⟩ := rd_no (by rw [HN.out] at hRj; exact hRj) k (by rw [HN.out]; exact hlt)
          obtain ⟨d0, d1, d2, d3⟩ := rd_no (by rw [HN.out] at hRj; exact hRj) j (by rw [HN.out]; exact hjn)
          rw [HXK.out] at c0 c1
          obtain ⟨y, hy⟩ : ∃ y, at_ l j = y := ⟨_, rfl⟩
          rw [hy] at d0 d1 hac
          have HYJ := Lib.hid hy
          have HAC := Lib.hid hac
          obtain ⟨y0, y1, y2, y3⟩ := y
          simp only at c0 c1 d0 d1
          have HC0 := Lib.hid c0
          have HD1 := Lib.hid d1
          have HD0 := Lib.hid d0
          clear hRj c2 c3 d2 d3 c0 d0 d1 hac hy
          have hsb : b < w2.heap.size := Nat.lt_of_lt_of_le hbl hs2
          go_wp2_with fail
          refine (rold_any _ vh l ho x1 w2 (HR1'.out.below HB2.out (Nat.le_refl _)) (HH.out.below HBW2.out (Nat.le_refl _))).mono ?_
          rintro e w3 ⟨rfl, hb3⟩
          have HB3 := Lib.hid (below_then HB2.out hb3)
          have HBW3 := Lib.hid (below_then HBW2.out hb3)
          have d1 := (hb3.cell (p := ⟨b, off + j * 4 + 1, none⟩) hsb).trans HD1.out
          have c0 := (hb3.cell (p := ⟨b, off + k * 4, none⟩) hsb).trans HC0.out
          have d0 := (hb3.cell (p := ⟨b, off + j * 4, none⟩) hsb).trans HD0.out
          have HC0' := Lib.hid c0
          have HD0' := Lib.hid d0
          have hsb3 : b < w3.heap.size := Nat.lt_of_lt_of_le hsb hb3.size
          obtain ⟨ba, hba⟩ : ∃ b, oldB l ho x1 = b := ⟨_, rfl⟩
          obtain ⟨bb, hbb⟩ : ∃ b, oldB l ho y1 = b := ⟨_, rfl⟩
          rw [hba]
          have HBA := Lib.hid hba
          have HBB := Lib.hid hbb
          clear hba hbb hb3 c0 d0 c1
          go_wp2_with fail
          refine (rold_any _ vh l ho y1 w3 (HR1'.out.below HB3.out (Nat.le_refl _)) (HH.out.below HBW3.out (Nat.le_refl _))).mono ?_
          rintro e w4 ⟨he, hb4⟩
          rw [HBB.out] at he
          subst he
          have HB4 := Lib.hid (below_then HB3.out hb4)
          have HBW4 := Lib.hid (below_then HBW3.out hb4)
          have c0 := (hb4.cell (p := ⟨b, off + k * 4, none⟩) hsb3).trans HC0'.out
          have d0 := (hb4.cell (p := ⟨b, off + j * 4, none⟩) hsb3).trans HD0'.out
          clear d1 hb4
          have F0 := fun d os => cell_regrown c0 d os
          have F1 := fun d os => cell_regrown d0 d os
          have CL := fun (z : Int) (w' : World) (hb : Below w.heap.size w w') => Calls.same_below (rload_any vd ld z w' (HD.out.below hb (Nat.le_refl _)))
          have HLE : Hid (lessT l ld ho (x0, x1, x2, x3) (y0, y1, y2, y3) = ((!ba && bb) || (ba == bb && decide (loadL ld x0 < loadL ld y0)))) := by
            unfold lessT
            simp only
            rw [HBA.out, HBB.out]
            exact rfl
          clear c0 d0
          go_wp2_with fail
          refine wp_region_quiet_below (by kernel_rfl) (by kernel_rfl) ?_
          repeat (go_big_quiet_step ((go_at_call 39; exact Calls.regrown_of (CL _ _ (below_then HBW4.out (below_regrown _ _ _))))))
          refine wpQuiet_nil ?_
          intro _ hw'
          obtain ⟨⟨dd, os⟩, hw''⟩ := hw'
          subst hw''
          have HB5 := Lib.hid (below_then HB4.out (below_regrown w4 dd os))
          have HUP : Hid (∀ b, lessT l ld ho (x0, x1, x2, x3) (y0, y1, y2, y3) = b → tgtK l al ld ho (k + 1) = if b then some (x0, x1, x2, x3) else acc) := by
            intro b hb
            rw [HST.out, HS2.out, HAC.out]
            simp only [beats, hb, Bool.true_and]
          have HPO : Hid (PlB l (k + 1) acc j) := .inr ⟨j, by omega, rfl, by rw [HAC.out, HYJ.out]⟩
          have HPN : Hid (PlB l (k + 1) (some (x0, x1, x2, x3)) k) := .inr ⟨k, by omega, rfl, by rw [HXK.out]⟩
          clear F0 F1 CL HPL HAC HBA HBB
          cases ba <;> cases bb
          case true.false =>
            go_wp2_with fail
            go_roundw
            case rel => exact ⟨k + 1, acc, j, by omega, by go_num, rfl, HUP.out false (by rw [HLE.out]; exact rfl), HPO.out, HB5.out⟩
            case measure => simp [intOf]; omega
          case false.true =>
            go_wp2_with fail
            go_roundw
            case rel => exact ⟨k + 1, _, k, by omega, by go_num, rfl, HUP.out true (by rw [HLE.out]; exact rfl), HPN.out, HB5.out⟩
            case measure => simp [intOf]; omega
          all_goals
            by_cases hn2 : loadL ld x0 < loadL ld y0
            · go_wp2_with fail
              go_roundw
              case rel => exact ⟨k + 1, _, k, by omega, by go_num, rfl, HUP.out true (by rw [HLE.out, decide_eq_true hn2]; exact rfl), HPN.out, HB5.out⟩
              case measure => simp [intOf]; omega
            · go_wp2_with fail
              go_roundw
              case rel => exact ⟨k + 1, acc, j, by omega, by go_num, rfl, HUP.out false (by rw [HLE.out, decide_eq_false hn2]; exact rfl), HPO.out, HB5.out⟩
              case measure => simp [intOf]; omega
    · obtain rfl : k = n := by omega
      have hta : tgtL l al ld ho = acc := by rw [← HT.out, ← HN.out, tgtK_all]
      rcases HPL.out with ⟨hac, hbi⟩ | ⟨j, hj, hbi, hac⟩
      · subst hac hbi
        have HTA := Lib.hid hta
        clear hta
        go_wp2_with fail
        go_ret2
        exact ⟨by rw [HL1.out, HTA.out]; rfl, HBW.out⟩
      · subst hbi
        have hjI : (j : Int) < (k : Int) := by omega
        have hj0 : ¬ (j : Int) < 0 := by omega
        have hRj := HR1.out.below HB.out (Nat.le_refl _)
        rw [HN.out] at hRj
        obtain ⟨b, off, hAd, hbl⟩ := hRj.addr (by omega)
        subst hAd
        obtain ⟨d0, d1, d2, d3⟩ := rd_no hRj j (by rw [HN.out]; exact hj)
        obtain ⟨t, ht⟩ : ∃ t, (at_ l j).1 = t := ⟨_, rfl⟩
        rw [ht] at d0
        have HTA : Hid (idO (tgtL l al ld ho) = t ∧ (tgtL l al ld ho).isSome = true) := by rw [hta, hac]; exact ⟨ht, rfl⟩
        clear d1 d2 d3 hRj hta hac ht
        go_wp2_with fail
        go_ret2
        exact ⟨by rw [HL1.out, HTA.out.1, HTA.out.2]; rfl, HBW.out⟩

set_option maxHeartbeats 1000000 in
theorem rmore_any (vd : Value) (ld : List Ld) (t : Int) (w : World) (hl : ld.length ≤ 1000) (h0 : 0 ≤ loadL ld t) (h1 : loadL ld t ≤ 1000) (hD : Rd w 2 vd ld.length (ld.flatMap ldC)) :
    Calls Try.prog 59 #[vd, .int .i64 t] w (FreshE_ld (moreD ld t).length ((moreD ld t).flatMap ldC) w) := by
  obtain ⟨ii, hii, hz0, hz1, hz2⟩ := info_parts info_ld
  obtain ⟨A, cap, hv, hcap, hnc⟩ := hD.shape
  subst hv
  have HD := Lib.hid hD
  clear hD
  go_enter Try.func59, Try.ntmps59
  go_wp2_with fail
  refine (rload_any _ ld t w HD.out).mono ?_
  rintro e w1 ⟨rfl, rfl⟩
  have HMD : Hid (moreD ld t = (t, loadL ld t + 1) :: ld) := rfl
  obtain ⟨nl, hnl⟩ : ∃ x, loadL ld t = x := ⟨_, rfl⟩
  rw [hnl] at h0 h1 HMD ⊢
  clear hnl
  go_wp2_with (at_builtin; refine wpList_append_seg rfl _ _ 43 rfl w.heap.size 63 ii _ 2 16 (by kernel_rfl) hii hz0 hz1 hz2 rfl (by omega) (.slice (some ⟨w.heap.size, 0, none⟩) 1 1) 1 (ldC (t, nl + 1)) rfl (Own.new w (ldC (t, nl + 1)).toArray 63 2 1 rfl (by omega) (by unfold maxLen; omega) (Nat.le_refl _)) (.slice A ld.length cap) ld.length (ld.flatMap ldC) rfl (HD.out.alloc _) (ldC_one ld) (by unfold maxLen; omega) (by omega) (by simp) ?_; intro v1 w1 hown1 hfr1 hb1 _)
  go_ret
  refine ⟨_, rfl, ?_, ?_⟩
  · rw [HMD.out, List.length_cons, Nat.add_comm]
    exact hown1
  · exact ((Below.refl _ _).alloc (Nat.le_refl _) _ : Below w.heap.size w (w.alloc _)).trans (hfr1.below (by simp) (fun i hi => by simp [blk] at hi; omega))

end Go.Proofs.Ythmifcbhbcjeiaa
