/- sutureref12: Add and Set: their contracts. -/
import Derived.Test.YthmifcbhbcjeiaaNodesA
import Derived.Test.YthmifcbhbcjeiaaNodesS
import Derived.Test.YthmifcbhbcjeiaaRef12F
namespace Go.Proofs.Ythmifcbhbcjeiaa
open Go Go.RowKit

def outN (l : List Nq) (x : Nq) (k : Nat) (d : Bool) : List Nq := if d then putN (l.take k) x else l.take k
theorem putN_low {l : List Nq} {x : Nq} (h : ∀ y ∈ l, y.1 < x.1) : putN l x = l ++ [x] := by
  unfold putN
  rw [List.filter_eq_self.2 (fun y hy => by simpa using h y hy), List.filter_eq_nil_iff.2 (fun y hy => by have := h y hy; simp; omega)]
theorem putN_up {l : List Nq} {x y : Nq} (h : x.1 < y.1) : putN (l ++ [y]) x = putN l x ++ [y] := by
  unfold putN
  rw [List.filter_append, List.filter_append]
  have e1 : [y].filter (fun z => decide (z.1 < x.1)) = [] := by simp; omega
  have e2 : [y].filter (fun z => decide (x.1 < z.1)) = [y] := by simp [h]
  rw [e1, e2]
  simp
theorem take_lowN {l : List Nq} {k : Nat} {c : Int} (hk : k ≤ l.length) (h : ∀ j, j < k → (at_ l j).1 < c) : ∀ y ∈ l.take k, y.1 < c := fun y hy => by
  obtain ⟨j, hj, rfl⟩ := List.mem_iff_getElem.1 hy
  rw [List.getElem_take]
  rw [List.length_take] at hj
  have := h j (by omega)
  rw [at_eq (show j < l.length by omega)] at this
  exact this
theorem outN_len (l : List Nq) (x : Nq) (k : Nat) (d : Bool) : (outN l x k d).length ≤ k + k + 1 := by
  unfold outN
  split
  · unfold putN
    have h1 := List.length_filter_le (fun y => decide (y.1 < x.1)) (l.take k)
    have h2 := List.length_filter_le (fun y => decide (x.1 < y.1)) (l.take k)
    have h3 := List.length_take_le k l
    simp only [List.length_append, List.length_cons]
    omega
  · have h3 := List.length_take_le k l
    omega
def RAddR (W : World) (B : Nat) (l : List Nq) (x : Nq) (n : Nat) (s10 s11 s12 : Value) (wr : World) : Prop :=
  ∃ (k : Nat) (d : Bool), k ≤ n ∧ s12 = .int .i64 k ∧ s11 = .bool d ∧ Own wr B 28 4 s10 (outN l x k d).length ((outN l x k d).flatMap noC) ∧ (d = false → ∀ j, j < k → (at_ l j).1 < x.1) ∧ (d = true → ∃ j, j < k ∧ x.1 ≤ (at_ l j).1) ∧ Below B W wr

set_option maxHeartbeats 4000000 in
set_option maxRecDepth 100000 in
theorem radd_any (v : Value) (l : List Nq) (x : Nq) (w : World) (hl : l.length ≤ 400) (hR : Rd w 4 v l.length (l.flatMap noC)) :
    Calls Try.prog 33 #[v, .agg #[.int .i64 x.1, .int .i64 x.2.1, .int .i64 x.2.2.1, .int .i64 x.2.2.2]] w (AddE l x w) := by
  obtain ⟨ii, hii, hz0, hz1, hz2⟩ := info_parts info_no
  obtain ⟨x0, x1, x2, x3⟩ := x
  simp only
  have HR := Lib.hid hR
  clear hR
  have hfl := fairL_len l
  go_enter Try.func33, Try.ntmps33
  go_wp2_with fail
  have hal := below_one w (.cells #[.int .i64 x0, .int .i64 x1, .int .i64 x2, .int .i64 x3] 28)
  have hbx := Bx.new w 28 [.int .i64 x0, .int .i64 x1, .int .i64 x2, .int .i64 x3]
  change Bx (w.alloc (.cells #[.int .i64 x0, .int .i64 x1, .int .i64 x2, .int .i64 x3] 28)) _ _ _ at hbx
  have hBw : w.heap.size < (w.alloc (.cells #[.int .i64 x0, .int .i64 x1, .int .i64 x2, .int .i64 x3] 28)).heap.size := by simp
  generalize w.alloc (.cells #[.int .i64 x0, .int .i64 x1, .int .i64 x2, .int .i64 x3] 28) = w0 at *
  refine (refFair_any v l _ (HR.out.below hal (Nat.le_refl _))).mono ?_
  rintro e w1 ⟨v1, rfl, hr1, hb1⟩
  obtain ⟨A1, cap1, hv1, _, _⟩ := hr1.shape
  obtain ⟨m, hm⟩ : ∃ m, (fairL l).length = m := ⟨_, rfl⟩
  rw [hm] at hv1
  subst hv1
  have HM := Lib.hid hm
  have HR1 := Lib.hid hr1
  have HB1 := Lib.hid (below_then hal hb1)
  have HX1 := Lib.hid (hbx.below' hb1)
  obtain ⟨B, hB⟩ : ∃ B, w.heap.size = B := ⟨_, rfl⟩
  have HBB := Lib.hid hB
  rw [hB] at HX1 ⊢
  obtain ⟨q0, q1, q2, q3⟩ := HX1.out.four
  rw [hm] at hfl
  clear hr1 hb1 hm hal hbx hB
  go_wp2_with fail
  refine (refmay_any x0 x1 x2 x3 w1).mono ?_
  rintro e w3 ⟨rfl, hb3⟩
  have HB3 := Lib.hid (below_then HB1.out hb3)
  have HR3 := Lib.hid (HR1.out.below hb3 (Nat.le_refl _))
  have HX3 := Lib.hid (HX1.out.below' hb3)
  clear hb3 q0 q1 q2 q3
  obtain ⟨q0, q1, q2, q3⟩ := HX3.out.four
  obtain ⟨mb, hmb⟩ : ∃ mb, mayN (x0, x1, x2, x3) = mb := ⟨_, rfl⟩
  rw [hmb]
  have HMB := Lib.hid hmb
  clear hmb
  cases mb with
  | false =>
    have e1 : addE l (x0, x1, x2, x3) = 1 := by unfold addE; rw [if_pos (.inl HMB.out)]
    have E1 := Lib.hid e1
    clear e1
    go_wp2_with fail
    go_ret2
    refine ⟨_, by rw [E1.out]; rfl, ?_, HB3.out⟩
    rw [show addO l (x0, x1, x2, x3) = [] by unfold addO; rw [E1.out]; rfl]
    exact Own.nil_ _ _ _ _
  | true =>
    by_cases hst : x3 = 0
    · subst hst
      go_wp2_with fail
      refine (refFind_any _ (fairL l) x0 w3 HR3.out).mono ?_
      rintro e w4 ⟨rfl, hb4⟩
      have hff : findL (fairL l) x0 = findL l x0 := by unfold findL; rw [fairL_fair]
      rw [hff]
      obtain ⟨o, ho⟩ : ∃ o, findL l x0 = o := ⟨_, rfl⟩
      obtain ⟨⟨y0, y1, y2, y3⟩, hy⟩ : ∃ y, optN o = y := ⟨_, rfl⟩
      rw [ho, hy]
      have HO := Lib.hid ho
      clear ho hy hff
      simp only [noV]
      have hal := below_one w4 (.cells #[.int .i64 y0, .int .i64 y1, .int .i64 y2, .int .i64 y3] 28)
      have HAL := Lib.hid (below_then (below_then HB3.out hb4) hal)
      have HX5 := Lib.hid ((HX3.out.below' hb4).below' hal)
      have HR5 := Lib.hid ((HR3.out.below hb4 (Nat.le_refl _)).below hal (Nat.le_refl _))
      have hsB : w.heap.size ≤ (w4.alloc (.cells #[.int .i64 y0, .int .i64 y1, .int .i64 y2, .int .i64 y3] 28)).heap.size := HAL.out.size
      clear hb4 hal q0 q1 q2 q3
      cases o with
      | some y =>
        have e1 : addE l (x0, x1, x2, 0) = 6 := by unfold addE; rw [if_neg (by simp [HMB.out]), if_pos (by show (findL l x0).isSome = true; rw [HO.out]; rfl)]
        have E1 := Lib.hid e1
        clear e1
        simp only [Option.isSome_some]
        go_wp2_with fail
        go_ret2
        refine ⟨_, by rw [E1.out]; rfl, ?_, HAL.out⟩
        rw [show addO l (x0, x1, x2, 0) = [] by unfold addO; rw [E1.out]; rfl]
        exact Own.nil_ _ _ _ _
      | none =>
        have e1 : addE l (x0, x1, x2, 0) = 0 := by unfold addE; rw [if_neg (by simp [HMB.out]), if_neg (by show ¬ (findL l x0).isSome = true; rw [HO.out]; simp)]
        have HPO : Hid (addO l (x0, x1, x2, 0) = putN (fairL l) (x0, x1, x2, 0)) := by show addO l (x0, x1, x2, 0) = _; unfold addO; rw [if_pos e1]
        have E1 := Lib.hid e1
        have hnf : ∀ y ∈ fairL l, y.1 ≠ x0 := fun y hy e => by
          have := List.find?_eq_none.1 HO.out y hy
          simp [noI] at this
          exact this e
        have HNF := Lib.hid hnf
        clear e1 hnf
        simp only [Option.isSome_none]
        go_wp2_with fail
        generalize w4.alloc (.cells #[.int .i64 y0, .int .i64 y1, .int .i64 y2, .int .i64 y3] 28) = W5 at *
        go_loopw [10, 11, 12] (RAddR W5 W5.heap.size (fairL l) (x0, x1, x2, 0) m) (fun _ _ s12 _ => m - (intOf s12).toNat)
        case atStart => exact ⟨0, false, by omega, rfl, rfl, Own.nil_ _ _ _ _, (fun _ j hj => absurd hj (by omega)), (fun h => (by cases h)), Below.refl _ _⟩
        case round =>
          obtain ⟨k, d, hk, rfl, rfl, hown, hd0, hd1, hbel⟩ := hrel
          have HO1 := Lib.hid hown
          have HB := Lib.hid hbel
          have HD0 := Lib.hid hd0
          have HD1 := Lib.hid hd1
          have hsr := hbel.size
          have hol := outN_len (fairL l) (x0, x1, x2, 0) k d
          obtain ⟨oo, hoo⟩ : ∃ oo, outN (fairL l) (x0, x1, x2, 0) k d = oo := ⟨_, rfl⟩
          have HOO := Lib.hid hoo
          rw [hoo] at HO1 hol
          obtain ⟨Ao, capo, hvo⟩ := HO1.out.slice_
          subst hvo
          clear hown hbel hd0 hd1 hoo
          obtain ⟨b0, b1, b2, b3⟩ := (HX5.out.below' HB.out).four
          by_cases hlt : k < m
          · have hltI : (k : Int) < (m : Int) := by omega
            have hR1 := HR5.out.below HB.out (Nat.le_refl _)
            rw [HM.out] at hR1
            obtain ⟨b, off, hA, hbl⟩ := hR1.addr (by omega)
            subst hA
            have HRN : Hid (Rd W5 4 (.slice (some ⟨b, off, none⟩) m cap1) m ((fairL l).flatMap noC)) := by have := HR5.out; rw [HM.out] at this; exact this
            obtain ⟨c0, c1, c2, c3⟩ := rd_no hR1 k (by rw [HM.out]; exact hlt)
            obtain ⟨z, hz⟩ : ∃ z, at_ (fairL l) k = z := ⟨_, rfl⟩
            rw [hz] at c0 c1 c2 c3
            obtain ⟨z0, z1, z2, z3⟩ := z
            simp only at c0 c1 c2 c3
            have HZ := Lib.hid hz
            have HT : Hid ((fairL l).take (k + 1) = (fairL l).take k ++ [(z0, z1, z2, z3)]) := by rw [take_at (by rw [HM.out]; exact hlt), hz]; exact rfl
            have hzx : z0 ≠ x0 := HNF.out (z0, z1, z2, z3) (by rw [← hz]; exact at_mem (by rw [HM.out]; exact hlt))
            clear hz hR1
            cases d with
            | true =>
              have hzc : x0 < z0 := by
                obtain ⟨j, hj, hle⟩ := HD1.out (by first | rfl | trivial)
                have := (fairL_ris l).lt hj (show k < (fairL l).length by rw [HM.out]; exact hlt)
                rw [HZ.out] at this
                simp only [noI] at this
                simp only at hle
                omega
              go_wp2_with fail
              go_quiet (fail)
              have HOd := Lib.hid (HO1.out.drewN nq)
              have HBd := Lib.hid (below_drewN HB.out nq)
              have hsd : W5.heap.size ≤ (wr.drewN nq).heap.size := hsr
              generalize hwd : wr.drewN nq = wd at *
              have c0d : wd.cell? ⟨b, off + k * 4, none⟩ = some (.int .i64 z0) := by rw [← hwd]; exact c0
              have c1d : wd.cell? ⟨b, off + k * 4 + 1, none⟩ = some (.int .i64 z1) := by rw [← hwd]; exact c1
              have c2d : wd.cell? ⟨b, off + k * 4 + 1 + 1, none⟩ = some (.int .i64 z2) := by rw [← hwd]; exact c2
              have c3d : wd.cell? ⟨b, off + k * 4 + 1 + 1 + 1, none⟩ = some (.int .i64 z3) := by rw [← hwd]; exact c3
              clear hwd c0 c1 c2 c3
              go_wp2_with (at_builtin; refine wpList_append_seg rfl _ _ 22 rfl W5.heap.size 28 ii _ 4 32 (by kernel_rfl) hii hz0 hz1 hz2 rfl (by omega) _ _ _ rfl (HOd.out.alloc _) (.slice (some ⟨wd.heap.size, 0, none⟩) 1 1) 1 (noC (z0, z1, z2, z3)) rfl (rd_one (t := 28) (heap_alloc_new _ _) rfl) (fun u hu => noC_one [(z0, z1, z2, z3)] u (by simpa using hu)) (by unfold maxLen; omega) (by omega) (by simp; try omega) ?_; intro v1 w1 hown hfr hbk _; have HN1 := Lib.hid hown; have HF1 := Lib.hid (hfr.below (B := W5.heap.size) (by simp; try omega) (fun k hk => (HOd.out.blk_lt hk).1)); have hs1 := hfr.size; simp only [World.size_alloc] at hs1; clear hown hfr hbk)
              go_roundw
              case rel =>
                refine ⟨k + 1, true, by omega, by go_num, rfl, ?_, (fun h => (by cases h)), (fun _ => by obtain ⟨j, hj, hle⟩ := HD1.out (by first | rfl | trivial); exact ⟨j, by omega, hle⟩), (HBd.out.alloc hsd _).trans HF1.out⟩
                have e1 : outN (fairL l) (x0, x1, x2, 0) (k + 1) true = oo ++ [(z0, z1, z2, z3)] := by unfold outN; rw [if_pos rfl, HT.out, putN_up hzc]; have := HOO.out; unfold outN at this; rw [if_pos rfl] at this; rw [this]
                rw [e1, List.length_append, List.flatMap_append, flat_one]
                exact HN1.out
              case measure => simp [intOf]; omega
            | false =>
              have hoT : oo = (fairL l).take k := by rw [← HOO.out]; exact rfl
              have HOT := Lib.hid hoT
              have HLow := Lib.hid (take_lowN (by rw [HM.out]; omega) (HD0.out (by first | rfl | trivial)))
              clear hoT
              by_cases hzc : x0 < z0
              · go_wp2_with fail
                go_quiet (fail)
                have HOd := Lib.hid (HO1.out.drewN nq)
                have HBd := Lib.hid (below_drewN HB.out nq)
                have hsd : W5.heap.size ≤ (wr.drewN nq).heap.size := hsr
                generalize hwd : wr.drewN nq = wd at *
                have b0d : wd.cell? ⟨B, 0, none⟩ = some (.int .i64 x0) := by rw [← hwd]; exact b0
                have b1d : wd.cell? ⟨B, 1, none⟩ = some (.int .i64 x1) := by rw [← hwd]; exact b1
                have b2d : wd.cell? ⟨B, 2, none⟩ = some (.int .i64 x2) := by rw [← hwd]; exact b2
                have b3d : wd.cell? ⟨B, 3, none⟩ = some (.int .i64 0) := by rw [← hwd]; exact b3
                clear hwd c0 c1 c2 c3 b0 b1 b2 b3
                go_wp2_with (first
                  | (at_builtin; refine wpList_append_seg rfl _ _ 22 rfl W5.heap.size 28 ii _ 4 32 (by kernel_rfl) hii hz0 hz1 hz2 rfl (by omega) _ _ _ rfl (HOd.out.alloc _) (.slice (some ⟨wd.heap.size, 0, none⟩) 1 1) 1 (noC (x0, x1, x2, 0)) rfl (rd_one (t := 28) (heap_alloc_new _ _) rfl) (fun u hu => noC_one [(x0, x1, x2, 0)] u (by simpa using hu)) (by unfold maxLen; omega) (by omega) (by simp; try omega) ?_; intro v1 w1 hown hfr hbk _; have HN1 := Lib.hid hown; have HF1 := Lib.hid (hfr.below (B := W5.heap.size) (by simp; try omega) (fun k hk => (HOd.out.blk_lt hk).1)); have hs1 := hfr.size; simp only [World.size_alloc] at hs1; clear hown hfr hbk; obtain ⟨d0, d1, d2, d3⟩ := rd_no (HRN.out.below ((HBd.out.alloc hsd _).trans HF1.out) (Nat.le_refl _)) k (by rw [HM.out]; exact hlt); rw [HZ.out] at d0 d1 d2 d3; simp only at d0 d1 d2 d3)
                  | (at_builtin; refine wpList_append_seg rfl _ _ 22 rfl W5.heap.size 28 ii _ 4 32 (by kernel_rfl) hii hz0 hz1 hz2 rfl (by omega) _ _ _ rfl (HN1.out.alloc _) (.slice (some ⟨w1.heap.size, 0, none⟩) 1 1) 1 (noC (z0, z1, z2, z3)) rfl (rd_one (t := 28) (heap_alloc_new _ _) rfl) (fun u hu => noC_one [(z0, z1, z2, z3)] u (by simpa using hu)) (by unfold maxLen; omega) (by omega) (by simp; try omega) ?_; intro v2 w2 hown hfr hbk _; have HN2 := Lib.hid hown; have HF2 := Lib.hid (hfr.below (B := W5.heap.size) (by simp; try omega) (fun k hk => (HN1.out.blk_lt hk).1)); have hs2 := hfr.size; simp only [World.size_alloc] at hs2; clear hown hfr hbk))
                go_roundw
                case rel =>
                  refine ⟨k + 1, true, by omega, by go_num, rfl, ?_, (fun h => (by cases h)), (fun _ => ⟨k, by omega, by rw [HZ.out]; show x0 ≤ z0; omega⟩), (((HBd.out.alloc hsd _).trans HF1.out).alloc (by omega) _).trans HF2.out⟩
                  have e1 : outN (fairL l) (x0, x1, x2, 0) (k + 1) true = oo ++ [(x0, x1, x2, 0)] ++ [(z0, z1, z2, z3)] := by unfold outN; rw [if_pos rfl, HT.out, putN_up hzc, putN_low HLow.out, HOT.out]
                  rw [e1, List.length_append, List.length_append, List.flatMap_append, List.flatMap_append, flat_one, flat_one]
                  exact HN2.out
                case measure => simp [intOf]; omega
              · have hd : decide (x0 < z0) = false := decide_eq_false hzc
                go_wp2_with fail
                go_quiet (fail)
                have HOd := Lib.hid (HO1.out.drewN nq)
                have HBd := Lib.hid (below_drewN HB.out nq)
                have hsd : W5.heap.size ≤ (wr.drewN nq).heap.size := hsr
                generalize hwd : wr.drewN nq = wd at *
                have c0d : wd.cell? ⟨b, off + k * 4, none⟩ = some (.int .i64 z0) := by rw [← hwd]; exact c0
                have c1d : wd.cell? ⟨b, off + k * 4 + 1, none⟩ = some (.int .i64 z1) := by rw [← hwd]; exact c1
                have c2d : wd.cell? ⟨b, off + k * 4 + 1 + 1, none⟩ = some (.int .i64 z2) := by rw [← hwd]; exact c2
                have c3d : wd.cell? ⟨b, off + k * 4 + 1 + 1 + 1, none⟩ = some (.int .i64 z3) := by rw [← hwd]; exact c3
                clear hwd c0 c1 c2 c3
                go_wp2_with (at_builtin; refine wpList_append_seg rfl _ _ 22 rfl W5.heap.size 28 ii _ 4 32 (by kernel_rfl) hii hz0 hz1 hz2 rfl (by omega) _ _ _ rfl (HOd.out.alloc _) (.slice (some ⟨wd.heap.size, 0, none⟩) 1 1) 1 (noC (z0, z1, z2, z3)) rfl (rd_one (t := 28) (heap_alloc_new _ _) rfl) (fun u hu => noC_one [(z0, z1, z2, z3)] u (by simpa using hu)) (by unfold maxLen; omega) (by omega) (by simp; try omega) ?_; intro v1 w1 hown hfr hbk _; have HN1 := Lib.hid hown; have HF1 := Lib.hid (hfr.below (B := W5.heap.size) (by simp; try omega) (fun k hk => (HOd.out.blk_lt hk).1)); have hs1 := hfr.size; simp only [World.size_alloc] at hs1; clear hown hfr hbk)
                go_roundw
                case rel =>
                  refine ⟨k + 1, false, by omega, by go_num, rfl, ?_, (fun _ j hj => ?_), (fun h => (by cases h)), (HBd.out.alloc hsd _).trans HF1.out⟩
                  · have e1 : outN (fairL l) (x0, x1, x2, 0) (k + 1) false = oo ++ [(z0, z1, z2, z3)] := by rw [HOT.out, ← HT.out]; exact rfl
                    rw [e1, List.length_append, List.flatMap_append, flat_one]
                    exact HN1.out
                  · by_cases e : j = k
                    · subst e; rw [HZ.out]; simp only; omega
                    · exact HD0.out (by first | rfl | trivial) j (by omega)
                case measure => simp [intOf]; omega
          · obtain rfl : k = m := by omega
            have HOd := HO1
            cases d with
            | true =>
              go_wp2_with fail
              go_ret2
              refine ⟨_, by rw [E1.out]; rfl, ?_, HAL.out.trans (HB.out.mono hsB)⟩
              have e1 : addO l (x0, x1, x2, 0) = oo := by rw [HPO.out, ← HOO.out]; unfold outN; rw [if_pos rfl, ← HM.out, List.take_length]
              rw [e1]
              exact HO1.out.mono hsB
            | false =>
              have hoT : oo = fairL l := by rw [← HOO.out]; show (fairL l).take k = fairL l; rw [← HM.out, List.take_length]
              have HOT := Lib.hid hoT
              have HLow := Lib.hid (take_lowN (by rw [HM.out]; omega) (HD0.out (by first | rfl | trivial)))
              clear hoT
              go_wp2_with (at_builtin; refine wpList_append_seg rfl _ _ 22 rfl W5.heap.size 28 ii _ 4 32 (by kernel_rfl) hii hz0 hz1 hz2 rfl (by omega) _ _ _ rfl (HOd.out.alloc _) (.slice (some ⟨wr.heap.size, 0, none⟩) 1 1) 1 (noC (x0, x1, x2, 0)) rfl (rd_one (t := 28) (heap_alloc_new _ _) rfl) (fun u hu => noC_one [(x0, x1, x2, 0)] u (by simpa using hu)) (by unfold maxLen; omega) (by omega) (by simp; try omega) ?_; intro v1 w1 hown hfr hbk _; have HN1 := Lib.hid hown; have HF1 := Lib.hid (hfr.below (B := W5.heap.size) (by simp; try omega) (fun k hk => (HOd.out.blk_lt hk).1)); have hs1 := hfr.size; simp only [World.size_alloc] at hs1; clear hown hfr hbk)
              go_ret2
              refine ⟨_, by rw [E1.out]; rfl, ?_, HAL.out.trans (((HB.out.alloc hsr _).trans HF1.out).mono hsB)⟩
              have e1 : addO l (x0, x1, x2, 0) = oo ++ [(x0, x1, x2, 0)] := by rw [HPO.out, HOT.out, putN_low (by have := HLow.out; rw [← HM.out, List.take_length] at this; exact this)]
              rw [e1, List.length_append, List.flatMap_append, flat_one]
              exact HN1.out.mono hsB
    · have hst' : (x3 != 0) = true := by simpa using hst
      have e1 : addE l (x0, x1, x2, x3) = 1 := by unfold addE; rw [if_pos (.inr hst)]
      have E1 := Lib.hid e1
      clear e1
      go_wp2_with fail
      go_ret2
      refine ⟨_, by rw [E1.out]; rfl, ?_, HB3.out⟩
      rw [show addO l (x0, x1, x2, x3) = [] by unfold addO; rw [E1.out]; rfl]
      exact Own.nil_ _ _ _ _

def mapK (l : List Nq) (id st : Int) (k : Nat) : List Nq := setIn (l.take k) id st ++ l.drop k
theorem mapK_len (l : List Nq) (id st : Int) (k : Nat) : (mapK l id st k).length = l.length := by
  unfold mapK
  rw [List.length_append, setIn_len, List.length_take, List.length_drop]
  omega
theorem mapK_at {l : List Nq} {id st : Int} {k : Nat} (hk : k < l.length) : at_ (mapK l id st k) k = at_ l k := by
  have h1 : (setIn (l.take k) id st).length = k := by rw [setIn_len, List.length_take]; omega
  unfold mapK at_
  rw [List.getD_eq_getElem?_getD, List.getElem?_append_right (by omega), h1, Nat.sub_self, List.getElem?_drop, Nat.add_zero, List.getD_eq_getElem?_getD]
theorem mapK_step {l : List Nq} {id st : Int} {k : Nat} (hk : k < l.length) : mapK l id st (k + 1) = (mapK l id st k).set k (if noI (at_ l k) = id then withS (at_ l k) st else at_ l k) := by
  have h1 : (setIn (l.take k) id st).length = k := by rw [setIn_len, List.length_take]; omega
  unfold mapK
  rw [List.set_append_right _ _ (by omega), h1, Nat.sub_self, drop_at hk, List.set_cons_zero, take_at hk]
  unfold setIn
  rw [List.map_append, List.map_singleton, List.append_assoc]
  rfl
theorem set_same {α : Type} [Inhabited α] {l : List α} {k : Nat} (hk : k < l.length) : l.set k (at_ l k) = l := by
  rw [at_eq hk]
  exact List.set_getElem_self hk

set_option maxHeartbeats 4000000 in
set_option maxRecDepth 100000 in
theorem rset_any (v : Value) (l : List Nq) (id st : Int) (w : World) (hl : l.length ≤ 400) (hR : Rd w 4 v l.length (l.flatMap noC)) :
    Calls Try.prog 34 #[v, .int .i64 id, .int .i64 st] w (SetE l id st w) := by
  obtain ⟨ii, hii, hz0, hz1, hz2⟩ := info_parts info_no
  have HR := Lib.hid hR
  clear hR
  have hfl := fairL_len l
  go_enter Try.func34, Try.ntmps34
  go_wp2_with fail
  refine (refFair_any v l _ HR.out).mono ?_
  rintro e w1 ⟨v1, rfl, hr1, hb1⟩
  obtain ⟨A1, cap1, hv1, _, _⟩ := hr1.shape
  obtain ⟨m, hm⟩ : ∃ m, (fairL l).length = m := ⟨_, rfl⟩
  rw [hm] at hv1
  subst hv1
  have HM := Lib.hid hm
  have HR1 := Lib.hid hr1
  have HB1 := Lib.hid hb1
  rw [hm] at hfl
  clear hr1 hb1 hm
  go_wp2_with fail
  refine (refFind_any _ (fairL l) id w1 HR1.out).mono ?_
  rintro e w4 ⟨rfl, hb4⟩
  have hff : findL (fairL l) id = findL l id := by unfold findL; rw [fairL_fair]
  rw [hff]
  obtain ⟨o, ho⟩ : ∃ o, findL l id = o := ⟨_, rfl⟩
  obtain ⟨⟨y0, y1, y2, y3⟩, hy⟩ : ∃ y, optN o = y := ⟨_, rfl⟩
  rw [ho, hy]
  have HO := Lib.hid ho
  have HY := Lib.hid hy
  clear ho hy hff
  simp only [noV]
  have hal := below_one w4 (.cells #[.int .i64 y0, .int .i64 y1, .int .i64 y2, .int .i64 y3] 28)
  have HAL := Lib.hid (below_then (below_then HB1.out hb4) hal)
  have HR5 := Lib.hid ((HR1.out.below hb4 (Nat.le_refl _)).below hal (Nat.le_refl _))
  clear hb4 hal
  cases o with
  | none =>
    have e1 : setE l id st = 5 := by unfold setE; rw [HO.out]
    have E1 := Lib.hid e1
    clear e1
    simp only [Option.isSome_none]
    go_wp2_with fail
    go_ret2
    refine ⟨_, by rw [E1.out]; rfl, ?_, HAL.out⟩
    rw [show setO l id st = [] by unfold setO; rw [E1.out]; rfl]
    exact Own.nil_ _ _ _ _
  | some y =>
    have hyy : y = (y0, y1, y2, y3) := HY.out
    subst hyy
    have HSE : Hid (setE l id st = if btw 0 2 st = false then 1 else if y3 = 2 ∨ (y3 = 0 ∧ st = 2) then 8 else 0) := by show setE l id st = _; unfold setE; rw [HO.out]
    simp only [Option.isSome_some]
    by_cases hs0 : st < 0
    · have e1 : setE l id st = 1 := by rw [HSE.out, if_pos (show btw 0 2 st = false from decide_eq_false (by omega))]
      have E1 := Lib.hid e1
      clear e1
      go_wp2_with fail
      go_ret2
      refine ⟨_, by rw [E1.out]; rfl, ?_, HAL.out⟩
      rw [show setO l id st = [] by unfold setO; rw [E1.out]; rfl]
      exact Own.nil_ _ _ _ _
    · by_cases hs2 : 2 < st
      · have e1 : setE l id st = 1 := by rw [HSE.out, if_pos (show btw 0 2 st = false from decide_eq_false (by omega))]
        have E1 := Lib.hid e1
        clear e1
        go_wp2_with fail
        go_ret2
        refine ⟨_, by rw [E1.out]; rfl, ?_, HAL.out⟩
        rw [show setO l id st = [] by unfold setO; rw [E1.out]; rfl]
        exact Own.nil_ _ _ _ _
      · have hbt : btw 0 2 st = true := decide_eq_true ⟨by omega, by omega⟩
        rw [hbt] at HSE
        by_cases hy2 : y3 = 2
        · subst hy2
          have e1 : setE l id st = 8 := by rw [HSE.out]; simp
          have E1 := Lib.hid e1
          clear e1
          go_wp2_with fail
          go_ret2
          refine ⟨_, by rw [E1.out]; rfl, ?_, HAL.out⟩
          rw [show setO l id st = [] by unfold setO; rw [E1.out]; rfl]
          exact Own.nil_ _ _ _ _
        · have hy2' : (y3 == 2) = false := by simpa using hy2
          by_cases hy0 : y3 = 0 ∧ st = 2
          · obtain ⟨rfl, rfl⟩ := hy0
            have e1 : setE l id 2 = 8 := by rw [HSE.out]; simp
            have E1 := Lib.hid e1
            clear e1
            go_wp2_with fail
            go_ret2
            refine ⟨_, by rw [E1.out]; rfl, ?_, HAL.out⟩
            rw [show setO l id 2 = [] by unfold setO; rw [E1.out]; rfl]
            exact Own.nil_ _ _ _ _
          · have e1 : setE l id st = 0 := by rw [HSE.out, if_neg (by simp), if_neg (by omega)]
            have E1 := Lib.hid e1
            have HPO : Hid (setO l id st = setIn (fairL l) id st) := by show setO l id st = _; unfold setO; rw [if_pos e1]
            clear e1
            have hcond : (y3 == 0 && st == 2) = false := by
              rw [Bool.and_eq_false_iff]
              by_cases h : y3 = 0
              · exact .inr (by simpa using (by omega : ¬ st = 2))
              · exact .inl (by simpa using h)
            by_cases h4 : y3 = 0
            · have h5 : (st == 2) = false := by simpa using (by omega : ¬ st = 2)
              subst h4
              clear hcond hy0
              go_wp2_with (at_builtin; refine wpList_append_seg rfl _ _ 22 rfl w.heap.size 28 ii _ 4 32 (by kernel_rfl) hii hz0 hz1 hz2 rfl (by omega) (.slice none 0 0) 0 [] rfl (Own.nil_ _ _ _ _) (.slice A1 m cap1) m ((fairL l).flatMap noC) rfl (by have := HR5.out; rw [HM.out] at this; exact this) (noC_one _) (by unfold maxLen; omega) (by omega) (HAL.out.size) ?_; intro v6 w6 hown6 hfr6 hb6 _; obtain ⟨A6, cap6, hv6⟩ := hown6.slice_; subst hv6; have HO6 := Lib.hid hown6; have HB6 := Lib.hid (HAL.out.trans (hfr6.below HAL.out.size (fun k hk => by simp [blk] at hk))); clear hown6 hfr6 hb6)
              simp only [Nat.zero_add, List.nil_append] at HO6 ⊢
              go_loopw [12] (fun s12 wr => ∃ k : Nat, k ≤ m ∧ s12 = .int .i64 k ∧ Own wr w.heap.size 28 4 (.slice A6 m cap6) m ((mapK (fairL l) id st k).flatMap noC) ∧ Below w.heap.size w wr) (fun s12 _ => m - (intOf s12).toNat)
              case atStart => exact ⟨0, by omega, rfl, HO6.out, HB6.out⟩
              case round =>
                obtain ⟨k, hk, rfl, hown, hbel⟩ := hrel
                have HO7 := Lib.hid hown
                have HB := Lib.hid hbel
                clear hown hbel
                by_cases hlt : k < m
                · have hltI : (k : Int) < (m : Int) := by omega
                  obtain ⟨g, off, cap7, hv7, hnc7, hcm7, hbg7, hgl7, hbk7⟩ := HO7.out.form (by omega)
                  injection hv7 with hA7 _ hc7
                  subst hA7 hc7
                  obtain ⟨c0, c1, c2, c3⟩ := rd_no HO7.out.rd k (by rw [mapK_len, HM.out]; exact hlt)
                  rw [mapK_at (by rw [HM.out]; exact hlt)] at c0 c1 c2 c3
                  have hzf := HO7.out.frozen (by omega) (off + k * 4 + 1 + 1 + 1)
                  have hstep := mapK_step (l := fairL l) (id := id) (st := st) (k := k) (by rw [HM.out]; exact hlt)
                  have hself := set_same (l := mapK (fairL l) id st k) (k := k) (by rw [mapK_len, HM.out]; exact hlt)
                  rw [mapK_at (by rw [HM.out]; exact hlt)] at hself
                  have hat := at_eq (l := mapK (fairL l) id st k) (i := k) (by rw [mapK_len, HM.out]; exact hlt)
                  rw [mapK_at (by rw [HM.out]; exact hlt)] at hat
                  obtain ⟨z, hz⟩ : ∃ z, at_ (fairL l) k = z := ⟨_, rfl⟩
                  rw [hz] at c0 c1 c2 c3 hstep hself hat
                  obtain ⟨z0, z1, z2, z3⟩ := z
                  simp only [noI, withS] at c0 c1 c2 c3 hstep
                  have HSTEP := Lib.hid hstep
                  have HSELF := Lib.hid hself
                  have HATT := Lib.hid hat
                  clear hstep hself hat hz hbk7
                  by_cases he : z0 = id
                  · subst he
                    go_wp2_with fail
                    go_roundw
                    case rel =>
                      refine ⟨k + 1, by omega, by go_num, ?_, HB.out.setCell (show w.heap.size ≤ g by omega) _⟩
                      have e3 := flat_set noC 4 noC_len (mapK (fairL l) z0 st k) k 3 (z0, z1, z2, st) (.int .i64 st) (by rw [mapK_len, HM.out]; exact hlt) (by omega) (by rw [← HATT.out]; rfl)
                      have hst2 := HSTEP.out
                      simp only [if_true] at hst2
                      rw [hst2, ← e3]
                      exact HO7.out.set_ (k * 4 + 3) (by omega) (.int .i64 st)
                    case measure => simp [intOf]; omega
                  · have he' : (z0 == id) = false := by simpa using he
                    go_wp2_with fail
                    go_roundw
                    case rel =>
                      refine ⟨k + 1, by omega, by go_num, ?_, HB.out⟩
                      have hst2 := HSTEP.out
                      simp only [he, if_false] at hst2
                      rw [hst2, HSELF.out]
                      exact HO7.out
                    case measure => simp [intOf]; omega
                · obtain rfl : k = m := by omega
                  go_wp2_with fail
                  go_ret2
                  refine ⟨_, by rw [E1.out]; rfl, ?_, HB.out⟩
                  have e1 : setO l id st = mapK (fairL l) id st k := by rw [HPO.out]; unfold mapK; rw [← HM.out, List.take_length, List.drop_length, List.append_nil]
                  rw [e1, mapK_len, HM.out]
                  exact HO7.out
            · have h5 : (y3 == 0) = false := by simpa using h4
              clear hcond hy0
              go_wp2_with (at_builtin; refine wpList_append_seg rfl _ _ 22 rfl w.heap.size 28 ii _ 4 32 (by kernel_rfl) hii hz0 hz1 hz2 rfl (by omega) (.slice none 0 0) 0 [] rfl (Own.nil_ _ _ _ _) (.slice A1 m cap1) m ((fairL l).flatMap noC) rfl (by have := HR5.out; rw [HM.out] at this; exact this) (noC_one _) (by unfold maxLen; omega) (by omega) (HAL.out.size) ?_; intro v6 w6 hown6 hfr6 hb6 _; obtain ⟨A6, cap6, hv6⟩ := hown6.slice_; subst hv6; have HO6 := Lib.hid hown6; have HB6 := Lib.hid (HAL.out.trans (hfr6.below HAL.out.size (fun k hk => by simp [blk] at hk))); clear hown6 hfr6 hb6)
              simp only [Nat.zero_add, List.nil_append] at HO6 ⊢
              go_loopw [12] (fun s12 wr => ∃ k : Nat, k ≤ m ∧ s12 = .int .i64 k ∧ Own wr w.heap.size 28 4 (.slice A6 m cap6) m ((mapK (fairL l) id st k).flatMap noC) ∧ Below w.heap.size w wr) (fun s12 _ => m - (intOf s12).toNat)
              case atStart => exact ⟨0, by omega, rfl, HO6.out, HB6.out⟩
              case round =>
                obtain ⟨k, hk, rfl, hown, hbel⟩ := hrel
                have HO7 := Lib.hid hown
                have HB := Lib.hid hbel
                clear hown hbel
                by_cases hlt : k < m
                · have hltI : (k : Int) < (m : Int) := by omega
                  obtain ⟨g, off, cap7, hv7, hnc7, hcm7, hbg7, hgl7, hbk7⟩ := HO7.out.form (by omega)
                  injection hv7 with hA7 _ hc7
                  subst hA7 hc7
                  obtain ⟨c0, c1, c2, c3⟩ := rd_no HO7.out.rd k (by rw [mapK_len, HM.out]; exact hlt)
                  rw [mapK_at (by rw [HM.out]; exact hlt)] at c0 c1 c2 c3
                  have hzf := HO7.out.frozen (by omega) (off + k * 4 + 1 + 1 + 1)
                  have hstep := mapK_step (l := fairL l) (id := id) (st := st) (k := k) (by rw [HM.out]; exact hlt)
                  have hself := set_same (l := mapK (fairL l) id st k) (k := k) (by rw [mapK_len, HM.out]; exact hlt)
                  rw [mapK_at (by rw [HM.out]; exact hlt)] at hself
                  have hat := at_eq (l := mapK (fairL l) id st k) (i := k) (by rw [mapK_len, HM.out]; exact hlt)
                  rw [mapK_at (by rw [HM.out]; exact hlt)] at hat
                  obtain ⟨z, hz⟩ : ∃ z, at_ (fairL l) k = z := ⟨_, rfl⟩
                  rw [hz] at c0 c1 c2 c3 hstep hself hat
                  obtain ⟨z0, z1, z2, z3⟩ := z
                  simp only [noI, withS] at c0 c1 c2 c3 hstep
                  have HSTEP := Lib.hid hstep
                  have HSELF := Lib.hid hself
                  have HATT := Lib.hid hat
                  clear hstep hself hat hz hbk7
                  by_cases he : z0 = id
                  · subst he
                    go_wp2_with fail
                    go_roundw
                    case rel =>
                      refine ⟨k + 1, by omega, by go_num, ?_, HB.out.setCell (show w.heap.size ≤ g by omega) _⟩
                      have e3 := flat_set noC 4 noC_len (mapK (fairL l) z0 st k) k 3 (z0, z1, z2, st) (.int .i64 st) (by rw [mapK_len, HM.out]; exact hlt) (by omega) (by rw [← HATT.out]; rfl)
                      have hst2 := HSTEP.out
                      simp only [if_true] at hst2
                      rw [hst2, ← e3]
                      exact HO7.out.set_ (k * 4 + 3) (by omega) (.int .i64 st)
                    case measure => simp [intOf]; omega
                  · have he' : (z0 == id) = false := by simpa using he
                    go_wp2_with fail
                    go_roundw
                    case rel =>
                      refine ⟨k + 1, by omega, by go_num, ?_, HB.out⟩
                      have hst2 := HSTEP.out
                      simp only [he, if_false] at hst2
                      rw [hst2, HSELF.out]
                      exact HO7.out
                    case measure => simp [intOf]; omega
                · obtain rfl : k = m := by omega
                  go_wp2_with fail
                  go_ret2
                  refine ⟨_, by rw [E1.out]; rfl, ?_, HB.out⟩
                  have e1 : setO l id st = mapK (fairL l) id st k := by rw [HPO.out]; unfold mapK; rw [← HM.out, List.take_length, List.drop_length, List.append_nil]
                  rw [e1, mapK_len, HM.out]
                  exact HO7.out

end Go.Proofs.Ythmifcbhbcjeiaa
