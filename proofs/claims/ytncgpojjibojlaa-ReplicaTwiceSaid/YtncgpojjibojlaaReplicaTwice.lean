/- ReplicaTwice: the walk. -/
import Derived.Test.YtncgpojjibojlaaReplicaRemoves
namespace Go.Proofs.Ytncgpojjibojlaa
open Go Go.RowKit

set_option maxHeartbeats 4000000 in
set_option maxRecDepth 100000 in
theorem replicaTwice_walk (v : Value) (l : List Re) (x : Re) (r : Int) (W : World) (hR : Rd W 5 v l.length (l.flatMap reC)) :
    Calls Try.prog 6 #[v, .agg #[.int .i64 x.1, .int .i64 x.2.1, .int .u32 x.2.2.1, .bool x.2.2.2.1, .bool x.2.2.2.2], .int .i64 r] W fun e w' => e = .returned (.bool true) ∧ Below W.heap.size W w' := by
  obtain ⟨A, cap, hv, _, hnc⟩ := hR.shape
  subst hv
  have HR := Lib.hid hR
  clear hR
  obtain ⟨n, hn⟩ : ∃ n, l.length = n := ⟨_, rfl⟩
  have HN := Lib.hid hn
  rw [hn] at HR hnc ⊢
  clear hn
  have HRD : Hid (∀ w', Below W.heap.size W w' → Rd w' 5 (.slice A n cap) l.length (l.flatMap reC)) := fun w' hb => by have := HR.out.below hb (Nat.le_refl _); rw [HN.out]; exact this
  obtain ⟨x0, x1, x2, x3, x4⟩ := x
  dsimp only
  go_enter Try.func6, Try.ntmps6
  go_wp2_with fail
  have hal := below_one W (.cells #[.int .i64 x0, .int .i64 x1, .int .u32 x2, .bool x3, .bool x4] 52)
  have hbx := Bx.new W 52 [.int .i64 x0, .int .i64 x1, .int .u32 x2, .bool x3, .bool x4]
  change Bx (W.alloc (.cells #[.int .i64 x0, .int .i64 x1, .int .u32 x2, .bool x3, .bool x4] 52)) _ _ _ at hbx
  generalize (W.alloc (.cells #[.int .i64 x0, .int .i64 x1, .int .u32 x2, .bool x3, .bool x4] 52)) = w0 at *
  refine (awake10 w0).mono ?_
  rintro e w1 ⟨rfl, hb1⟩
  have HB1 := Lib.hid (below_then hal hb1)
  have HBX1 := Lib.hid (hbx.below' hb1)
  obtain ⟨B, hB⟩ : ∃ B, W.heap.size = B := ⟨_, rfl⟩
  have HBZ := Lib.hid hB
  rw [hB] at HBX1 ⊢
  clear hal hbx hb1 hB
  by_cases hn : 100 < n
  · have hni : (n : Int) > 100 := by omega
    go_wp2_with fail
    go_ret
    exact ⟨rfl, HBZ.out ▸ HB1.out⟩
  have hni : ¬ ((n : Int) > 100) := by omega
  have hll : l.length ≤ 100 := by have := HN.out; omega
  go_wp2_with fail
  refine (mayR_any _ l w1 (HRD.out _ HB1.out)).mono ?_
  rintro e w2 ⟨rfl, hb2⟩
  have HB2 := Lib.hid (below_then HB1.out hb2)
  have HBX2 := Lib.hid (HBX1.out.below' hb2)
  clear hb2 HBX1
  obtain ⟨b, hb⟩ : ∃ b, mayR l = b := ⟨_, rfl⟩
  rw [hb]
  have HM := Lib.hid hb
  clear hb
  cases b with
  | false =>
    go_wp2_with fail
    go_ret
    exact ⟨rfl, HBZ.out ▸ HB2.out⟩
  | true =>
    go_wp2_with fail
    go_loopw [8] (fun s8 wr => ∃ (k : Nat), s8 = .int .i64 k ∧ k ≤ n ∧ (∀ j, j < k → (at_ l j).2.2.2.1 = false) ∧ Below w2.heap.size w2 wr) (fun s8 _ => n - (intOf s8).toNat)
    case atStart => exact ⟨0, rfl, by omega, fun j hj => absurd hj (by omega), Below.refl _ _⟩
    case round =>
      obtain ⟨k, rfl, hk, hall, hbel⟩ := hrel
      have HAl := Lib.hid hall
      have HB3 := Lib.hid (below_then HB2.out hbel)
      have HBX3 := Lib.hid (HBX2.out.below' hbel)
      have HBL := Lib.hid hbel
      clear hall hbel
      by_cases hlt : k < n
      · have hltI : (k : Int) < (n : Int) := by omega
        have hR1 := HRD.out _ HB3.out
        rw [HN.out] at hR1
        obtain ⟨b, off, hA, hbl⟩ := hR1.addr (by omega)
        subst hA
        obtain ⟨c0, c1, c2, c3, c4⟩ := rd_re hR1 k (by rw [HN.out]; exact hlt)
        obtain ⟨y, hy⟩ : ∃ y, (at_ l k).2.2.2.1 = y := ⟨_, rfl⟩
        rw [hy] at c3
        have HY := Lib.hid hy
        clear c0 c1 c2 c4 hR1 hy
        cases y with
        | true =>
          go_wp2_with fail
          go_ret
          exact ⟨rfl, HBZ.out ▸ HB3.out⟩
        | false =>
          go_wp2_with fail
          go_roundw
          case rel => exact ⟨k + 1, by go_num, by omega, fun j hj => by
            by_cases e : j = k
            · subst e; exact HY.out
            · exact HAl.out j (by omega), HBL.out⟩
          case measure => simp [intOf]; omega
      · obtain rfl : k = n := by omega
        have HNO : Hid (∀ y ∈ l, y.2.2.2.1 = false) := fun y hy => by
          obtain ⟨j, hj, rfl⟩ := mem_at hy
          exact HAl.out j (by have := HN.out; omega)
        clear HAl HBX2
        obtain ⟨q0, q1, q2, q3, q4⟩ := HBX3.out.five
        go_wp2_with fail
        refine (begin_any _ l (x0, x1, x2, x3, x4) r wr (by omega) (HRD.out _ HB3.out)).mono ?_
        rintro e w4 ⟨v4, rfl, ho4, hb4⟩
        have hm1 := bgnR_len l (x0, x1, x2, x3, x4) r
        have hbad1 := fun h => bgnR_bad (l := l) (x := (x0, x1, x2, x3, x4)) (room := r) h
        obtain ⟨⟨a, m⟩, hm⟩ : ∃ p, bgnR l (x0, x1, x2, x3, x4) r = p := ⟨_, rfl⟩
        rw [hm] at ho4 hm1 hbad1 ⊢
        dsimp only at ho4 hm1 hbad1 ⊢
        obtain ⟨A4, cap4, hv4⟩ := ho4.slice_
        subst hv4
        have HO4 := Lib.hid ho4.rd
        obtain ⟨nm, hnm⟩ : ∃ n, m.length = n := ⟨_, rfl⟩
        rw [hnm] at hm1 ⊢
        have HM1 := Lib.hid hm
        have HNM := Lib.hid hnm
        have HBAD : Hid (a ≠ 0 → nm = 0) := fun h => by rw [← hnm, hbad1 h]; rfl
        have HB4 := Lib.hid (below_then HB3.out hb4)
        have HBX4 := Lib.hid (HBX3.out.below' hb4)
        clear q0 q1 q2 q3 q4 ho4 hm hnm hb4 HBX3 hbad1
        have hnm63 : nm ≤ 9223372036854775807 := by omega
        by_cases ha : a = 0
        · subst ha
          obtain ⟨l1, l2, l3, l4, l5, l6⟩ := twice_law HM.out HNO.out HM1.out
          dsimp only at l1 l2 l3 l4 l5 l6
          have L1 := Lib.hid l1
          have L2 := Lib.hid l2
          have L3 := Lib.hid l3
          have L4 := Lib.hid l4
          have L5 := Lib.hid l5
          have L6 := Lib.hid l6
          clear l1 l2 l3 l4 l5 l6 HBAD
          obtain ⟨q0, q1, q2, q3, q4⟩ := HBX4.out.five
          go_wp2_with fail
          refine (commit_any _ m x0 x1 w4 (by have := HNM.out; omega) (rdN HNM.out HO4.out)).mono ?_
          rintro e w5 ⟨v5, rfl, ho5, hb5⟩
          rw [L1.out]
          have hcl := cmtR_len m x0 x1
          obtain ⟨o, ho⟩ : ∃ o, (cmtR m x0 x1).2 = o := ⟨_, rfl⟩
          rw [ho] at ho5 hcl
          have L5' : Hid (hasR o x0 x1 x2 = true) := ho ▸ L5.out
          obtain ⟨A5, cap5, hv5⟩ := ho5.slice_
          subst hv5
          have HO55 := Lib.hid ho5.rd
          obtain ⟨no, hno⟩ : ∃ n, o.length = n := ⟨_, rfl⟩
          rw [hno]
          have HNOO := Lib.hid hno
          have HB5 := Lib.hid (below_then HB4.out hb5)
          have HO45 := Lib.hid (HO4.out.below hb5 (Nat.le_refl _))
          have HBX5 := Lib.hid (HBX4.out.below' hb5)
          have HCL : Hid (o.length ≤ 900) := by have := HNM.out; show o.length ≤ 900; omega
          clear q0 q1 q2 q3 q4 ho5 hb5 hno ho hcl HBX4
          obtain ⟨q0, q1, q2, q3, q4⟩ := HBX5.out.five
          go_wp2_with fail
          refine (held_any _ l x0 w5 (HRD.out _ HB5.out)).mono ?_
          rintro e w6 ⟨rfl, hb6⟩
          obtain ⟨oz, hoz⟩ : ∃ o, heldR l x0 = o := ⟨_, rfl⟩
          rw [hoz]
          have HZ : Hid (heldR m x0 = oz) := by rw [← hoz]; exact L2.out.symm
          obtain ⟨bz, hbz⟩ : ∃ b, oz.isSome = b := ⟨_, rfl⟩
          obtain ⟨zz, hzz⟩ : ∃ z, oz.getD reZ = z := ⟨_, rfl⟩
          unfold optR reV
          rw [hbz, hzz]
          have HBZ2 := Lib.hid hbz
          have HZZ := Lib.hid hzz
          obtain ⟨z0, z1, z2, z3, z4⟩ := zz
          dsimp only
          have HB6 := Lib.hid (below_then HB5.out hb6)
          have HO46 := Lib.hid (HO45.out.below hb6 (Nat.le_refl _))
          have HO56 := Lib.hid (HO55.out.below hb6 (Nat.le_refl _))
          have HBX6 := Lib.hid (HBX5.out.below' hb6)
          clear q0 q1 q2 q3 q4 hb6 hoz hbz hzz HBX5
          have hal := below_one w6 (.cells #[.int .i64 z0, .int .i64 z1, .int .u32 z2, .bool z3, .bool z4] 52)
          have hbz := Bx.new w6 52 [.int .i64 z0, .int .i64 z1, .int .u32 z2, .bool z3, .bool z4]
          change Bx (w6.alloc (.cells #[.int .i64 z0, .int .i64 z1, .int .u32 z2, .bool z3, .bool z4] 52)) _ _ _ at hbz
          have HAL6 := Lib.hid hal
          have HBZ6 := Lib.hid hbz
          obtain ⟨q0, q1, q2, q3, q4⟩ := (HBX6.out.below' hal).five
          clear hal hbz
          go_wp2_with fail
          have hsz6 : (w6.alloc (.cells #[.int .i64 z0, .int .i64 z1, .int .u32 z2, .bool z3, .bool z4] 52)).heap.size = w6.heap.size + 1 := by simp
          refine (held_any _ m x0 _ (rdN HNM.out (HO46.out.below HAL6.out (Nat.le_refl _)))).mono ?_
          rintro e w7 ⟨rfl, hb7⟩
          rw [HZ.out]
          unfold optR reV
          rw [HBZ2.out, HZZ.out]
          dsimp only
          have HB7 := Lib.hid (below_then (below_then HB6.out HAL6.out) hb7)
          have HO47 := Lib.hid ((HO46.out.below HAL6.out (Nat.le_refl _)).below hb7 (Nat.le_refl _))
          have HO57 := Lib.hid ((HO56.out.below HAL6.out (Nat.le_refl _)).below hb7 (Nat.le_refl _))
          have HBX7 := Lib.hid ((HBX6.out.below' HAL6.out).below' hb7)
          have HBZ7 := Lib.hid (HBZ6.out.below' hb7)
          obtain ⟨bz7, hbz7⟩ : ∃ b, w6.heap.size = b := ⟨_, rfl⟩
          rw [hbz7] at HBZ7 ⊢
          clear q0 q1 q2 q3 q4 hb7 hsz6 hbz7 HBZ6 HAL6 HBX6
          have hal := below_one w7 (.cells #[.int .i64 z0, .int .i64 z1, .int .u32 z2, .bool z3, .bool z4] 52)
          have hbz := Bx.new w7 52 [.int .i64 z0, .int .i64 z1, .int .u32 z2, .bool z3, .bool z4]
          change Bx (w7.alloc (.cells #[.int .i64 z0, .int .i64 z1, .int .u32 z2, .bool z3, .bool z4] 52)) _ _ _ at hbz
          have HAL7 := Lib.hid hal
          have HBY7 := Lib.hid hbz
          clear hal hbz
          go_wp2_with fail
          refine (restart_any _ m _ (by have := HNM.out; omega) (rdN HNM.out (HO47.out.below HAL7.out (Nat.le_refl _)))).mono ?_
          rintro e w8 ⟨v8, rfl, ho8, hb8⟩
          rw [L3.out] at ho8
          obtain ⟨A8, cap8, hv8⟩ := ho8.slice_
          subst hv8
          have HB8 := Lib.hid (below_then (below_then HB7.out HAL7.out) hb8)
          have HO48 := Lib.hid ((HO47.out.below HAL7.out (Nat.le_refl _)).below hb8 (Nat.le_refl _))
          have HO58 := Lib.hid ((HO57.out.below HAL7.out (Nat.le_refl _)).below hb8 (Nat.le_refl _))
          have HBX8 := Lib.hid ((HBX7.out.below' HAL7.out).below' hb8)
          have HBZ8 := Lib.hid ((HBZ7.out.below' HAL7.out).below' hb8)
          have HBY8 := Lib.hid (HBY7.out.below' hb8)
          have HO8 := Lib.hid ho8.rd
          obtain ⟨by8, hby8⟩ : ∃ b, w7.heap.size = b := ⟨_, rfl⟩
          rw [hby8] at HBY8 ⊢
          rw [HN.out]
          clear ho8 hb8 hby8 HBY7 HAL7 HBX7 HBZ7
          go_wp2_with fail
          refine (same_re _ _ l l w8 (rdN HN.out HO8.out) (HRD.out _ HB8.out)).mono ?_
          rintro e w9 ⟨rfl, hb9⟩
          rw [decide_eq_true rfl]
          have HB9 := Lib.hid (below_then HB8.out hb9)
          have HO49 := Lib.hid (HO48.out.below hb9 (Nat.le_refl _))
          have HO59 := Lib.hid (HO58.out.below hb9 (Nat.le_refl _))
          have HBX9 := Lib.hid (HBX8.out.below' hb9)
          have HBZ9 := Lib.hid (HBZ8.out.below' hb9)
          have HBY9 := Lib.hid (HBY8.out.below' hb9)
          clear hb9 HBX8 HBZ8 HBY8
          obtain ⟨q0, q1, q2, q3, q4⟩ := HBX9.out.five
          go_wp2_with fail
          refine (abort_any _ m x0 w9 (by have := HNM.out; omega) (rdN HNM.out HO49.out)).mono ?_
          rintro e w10 ⟨v10, rfl, ho10, hb10⟩
          rw [L4.out] at ho10
          obtain ⟨A10, cap10, hv10⟩ := ho10.slice_
          subst hv10
          have HB10 := Lib.hid (below_then HB9.out hb10)
          have HO410 := Lib.hid (HO49.out.below hb10 (Nat.le_refl _))
          have HO510 := Lib.hid (HO59.out.below hb10 (Nat.le_refl _))
          have HBX10 := Lib.hid (HBX9.out.below' hb10)
          have HBZ10 := Lib.hid (HBZ9.out.below' hb10)
          have HBY10 := Lib.hid (HBY9.out.below' hb10)
          have HO10 := Lib.hid ho10.rd
          rw [HN.out]
          clear ho10 hb10 q0 q1 q2 q3 q4 HBX9 HBZ9 HBY9
          go_wp2_with fail
          refine (same_re _ _ l l w10 (rdN HN.out HO10.out) (HRD.out _ HB10.out)).mono ?_
          rintro e w11 ⟨rfl, hb11⟩
          rw [decide_eq_true rfl]
          have HB11 := Lib.hid (below_then HB10.out hb11)
          have HO411 := Lib.hid (HO410.out.below hb11 (Nat.le_refl _))
          have HO511 := Lib.hid (HO510.out.below hb11 (Nat.le_refl _))
          have HBX11 := Lib.hid (HBX10.out.below' hb11)
          obtain ⟨q0, q1, q2, q3, q4⟩ := HBX11.out.five
          obtain ⟨r0, r1, r2, r3, r4⟩ := (HBZ10.out.below' hb11).five
          obtain ⟨s0, s1, s2, s3, s4⟩ := (HBY10.out.below' hb11).five
          clear hb11 HBX10 HBZ10 HBY10
          have e3 : (z3 == z3) = true := by cases z3 <;> rfl
          have e4 : (z4 == z4) = true := by cases z4 <;> rfl
          have e5 : (bz == bz) = true := by cases bz <;> rfl
          go_wp2_with fail
          refine (has_any _ o x0 x1 x2 w11 (by have := HCL.out; omega) (rdN HNOO.out HO511.out)).mono ?_
          rintro e w12 ⟨rfl, hb12⟩
          rw [L5'.out]
          have HB12 := Lib.hid (below_then HB11.out hb12)
          have HO412 := Lib.hid (HO411.out.below hb12 (Nat.le_refl _))
          have HBX12 := Lib.hid (HBX11.out.below' hb12)
          clear hb12 q0 q1 q2 q3 q4 r0 r1 r2 r3 r4 s0 s1 s2 s3 s4 HBX11
          obtain ⟨q0, q1, q2, q3, q4⟩ := HBX12.out.five
          go_wp2_with fail
          refine (has_any _ m x0 x1 x2 w12 (by have := HNM.out; omega) (rdN HNM.out HO412.out)).mono ?_
          rintro e w13 ⟨rfl, hb13⟩
          rw [L6.out]
          have HB13 := Lib.hid (below_then HB12.out hb13)
          clear hb13 q0 q1 q2 q3 q4 HBX12
          go_wp2_with fail
          go_ret
          exact ⟨by first | rfl | trivial | simp, HBZ.out ▸ HB13.out⟩
        · have hz := HBAD.out ha
          subst hz
          go_wp2_with fail
          go_ret
          exact ⟨rfl, HBZ.out ▸ HB4.out⟩

end Go.Proofs.Ytncgpojjibojlaa
