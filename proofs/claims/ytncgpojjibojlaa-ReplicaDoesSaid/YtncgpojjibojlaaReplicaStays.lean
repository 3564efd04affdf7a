/- ReplicaStays: the walk. -/
import Derived.Test.YtncgpojjibojlaaReL2
import Derived.Test.YtncgpojjibojlaaReplicaRemoves
namespace Go.Proofs.Ytncgpojjibojlaa
open Go Go.RowKit Go.Sort

/-- The cells of one op. -/
theorem rd_oq {w : World} {b off cap n : Nat} {l : List Oq} (h : Rd w 7 (.slice (some ⟨b, off, none⟩) n cap) n (l.flatMap oqC)) (i : Nat) (hi : i < l.length) :
    w.cell? ⟨b, off + i * 7, none⟩ = some (.int .i64 (at_ l i).1) ∧ w.cell? ⟨b, off + i * 7 + 1, none⟩ = some (.int .i64 (at_ l i).2.1.1) ∧ w.cell? ⟨b, off + i * 7 + 1 + 1, none⟩ = some (.int .i64 (at_ l i).2.1.2.1) ∧
    w.cell? ⟨b, off + i * 7 + 1 + 1 + 1, none⟩ = some (.int .u32 (at_ l i).2.1.2.2.1) ∧ w.cell? ⟨b, off + i * 7 + 1 + 1 + 1 + 1, none⟩ = some (.bool (at_ l i).2.1.2.2.2.1) ∧
    w.cell? ⟨b, off + i * 7 + 1 + 1 + 1 + 1 + 1, none⟩ = some (.bool (at_ l i).2.1.2.2.2.2) ∧ w.cell? ⟨b, off + i * 7 + 1 + 1 + 1 + 1 + 1 + 1, none⟩ = some (.int .i64 (at_ l i).2.2) := by
  have hn : n = l.length := by have := h.1; rw [flat_len oqC 7 oqC_len] at this; omega
  obtain ⟨b', off', cap', hv, _, _, _, hc⟩ := h.form (by omega)
  injection hv with h1 h2 h3
  injection h1 with h1
  injection h1 with h4 h5
  subst h4 h5
  have hg := at_get hi
  have f0 := flat_get oqC 7 oqC_len l i 0 (by omega)
  have f1 := flat_get oqC 7 oqC_len l i 1 (by omega)
  have f2 := flat_get oqC 7 oqC_len l i 2 (by omega)
  have f3 := flat_get oqC 7 oqC_len l i 3 (by omega)
  have f4 := flat_get oqC 7 oqC_len l i 4 (by omega)
  have f5 := flat_get oqC 7 oqC_len l i 5 (by omega)
  have f6 := flat_get oqC 7 oqC_len l i 6 (by omega)
  rw [hg] at f0 f1 f2 f3 f4 f5 f6
  exact ⟨hc _ _ f0, hc _ _ f1, hc _ _ f2, hc _ _ f3, hc _ _ f4, hc _ _ f5, hc _ _ f6⟩

def StR (W : World) (n : Nat) (s4 s5 : Value) (wr : World) : Prop := ∃ (i : Nat) (now : List Re), i ≤ n ∧ s5 = .int .i64 i ∧ now.length ≤ i ∧ mayR now = true ∧ Rd wr 5 s4 now.length (now.flatMap reC) ∧ Below W.heap.size W wr

set_option maxHeartbeats 8000000 in
set_option maxRecDepth 100000 in
theorem replicaStays_walk (v : Value) (ops : List Oq) (W : World) (hR : Rd W 7 v ops.length (ops.flatMap oqC)) :
    Calls Try.prog 10 #[v] W fun e w' => e = .returned (.bool true) ∧ Below W.heap.size W w' := by
  obtain ⟨A, cap, hv, _, hnc⟩ := hR.shape
  subst hv
  have HR := Lib.hid hR
  clear hR
  obtain ⟨n, hn⟩ : ∃ n, ops.length = n := ⟨_, rfl⟩
  have HN := Lib.hid hn
  rw [hn] at HR hnc ⊢
  clear hn
  go_enter Try.func10, Try.ntmps10
  go_wp2_with fail
  refine (awake10 W).mono ?_
  rintro e w1 ⟨rfl, hb1⟩
  have HB1 := Lib.hid hb1
  clear hb1
  by_cases hn : 60 < n
  · have hni : (n : Int) > 60 := by omega
    go_wp2_with fail
    go_ret
    exact ⟨rfl, HB1.out⟩
  have hni : ¬ ((n : Int) > 60) := by omega
  go_wp2_with fail
  go_loopw [4, 5] (StR W n) (fun _ s5 _ => n - (intOf s5).toNat)
  case atStart => exact ⟨0, [], Nat.zero_le _, rfl, Nat.le_refl _, mayR_nil, Rd.nil_ _ _, HB1.out⟩
  case round =>
    obtain ⟨i, now, hi, rfl, hlen, hmay, hrd, hbel⟩ := hrel
    obtain ⟨A4, cap4, hv, _, _⟩ := hrd.shape
    subst hv
    have HMAY := Lib.hid hmay
    have HRD := Lib.hid hrd
    have HB2 := Lib.hid hbel
    obtain ⟨nn, hnn⟩ : ∃ k, now.length = k := ⟨_, rfl⟩
    rw [hnn] at hlen ⊢
    have HNN := Lib.hid hnn
    have hnn63 : nn ≤ 9223372036854775807 := by omega
    clear hmay hrd hbel hnn
    by_cases hlt : i < n
    · have hltI : (i : Int) < (n : Int) := by omega
      have hR1 := HR.out.below HB2.out (Nat.le_refl _)
      obtain ⟨b, off, hA, hbl⟩ := hR1.addr (by omega)
      subst hA
      obtain ⟨c0, c1, c2, c3, c4, c5, c6⟩ := rd_oq hR1 i (by rw [HN.out]; exact hlt)
      obtain ⟨o, ho⟩ : ∃ o, at_ ops i = o := ⟨_, rfl⟩
      rw [ho] at c0 c1 c2 c3 c4 c5 c6
      clear ho hR1
      obtain ⟨k, ⟨x0, x1, x2, x3, x4⟩, r⟩ := o
      dsimp only at c0 c1 c2 c3 c4 c5 c6
      have hal := below_one wr (.cells #[.int .i64 k, .int .i64 x0, .int .i64 x1, .int .u32 x2, .bool x3, .bool x4, .int .i64 r] 69)
      have hbx := Bx.new wr 69 [.int .i64 k, .int .i64 x0, .int .i64 x1, .int .u32 x2, .bool x3, .bool x4, .int .i64 r]
      change Bx (wr.alloc (.cells #[.int .i64 k, .int .i64 x0, .int .i64 x1, .int .u32 x2, .bool x3, .bool x4, .int .i64 r] 69)) _ _ _ at hbx
      obtain ⟨q0, q1, q2, q3, q4, q5, q6⟩ := hbx.seven
      have HAL := Lib.hid hal
      have HBX := Lib.hid hbx
      clear hal hbx
      go_wp2_with fail
      refine (does_any _ now (k, (x0, x1, x2, x3, x4), r) _ (by have := HNN.out; omega) (rdN HNN.out (HRD.out.below HAL.out (Nat.le_refl _)))).mono ?_
      rintro e w2 ⟨v2, rfl, ho2, hb2⟩
      have hml := doR_len now (k, (x0, x1, x2, x3, x4), r)
      have hbad := doR_bad (l := now) (o := (k, (x0, x1, x2, x3, x4), r))
      obtain ⟨⟨a, m⟩, hm⟩ : ∃ p, doR now (k, (x0, x1, x2, x3, x4), r) = p := ⟨_, rfl⟩
      rw [hm] at ho2 hml hbad ⊢
      dsimp only at ho2 hml hbad ⊢
      obtain ⟨A2, cap2, hv2⟩ := ho2.slice_
      subst hv2
      have HM := Lib.hid hm
      have HO2 := Lib.hid ho2.rd
      have HB3 := Lib.hid (below_then (below_then HB2.out HAL.out) hb2)
      have HRD2 := Lib.hid ((HRD.out.below HAL.out (Nat.le_refl _)).below hb2 (Nat.le_refl _))
      have HBX2 := Lib.hid (HBX.out.below' hb2)
      obtain ⟨nm, hnm⟩ : ∃ k, m.length = k := ⟨_, rfl⟩
      rw [hnm] at hml ⊢
      have HNM := Lib.hid hnm
      have HBAD : Hid (a ≠ 0 → nm = 0) := fun h => by rw [← hnm, hbad h]; rfl
      obtain ⟨BB, hBB⟩ : ∃ b, wr.heap.size = b := ⟨_, rfl⟩
      rw [hBB] at HBX2 ⊢
      have hml' : nm ≤ nn + 1 := by have := HNN.out; omega
      have hnm63 : nm ≤ 9223372036854775807 := by omega
      clear hm ho2 hb2 hnm hbad hml hBB q0 q1 q2 q3 q4 q5 q6 c0 c1 c2 c3 c4 c5 c6 HBX HAL HRD
      by_cases ha : a = 0
      · subst ha
        obtain ⟨l1, l2, l3⟩ := stays_law HMAY.out HM.out
        have L1 := Lib.hid l1
        have L2 : Hid (k = 0 → nn < nm → (nm : Int) ≤ r) := fun h1 h2 => by
          have := l2 h1 (by have := HNN.out; have := HNM.out; omega)
          rw [HNM.out] at this
          exact this
        have L3 := Lib.hid l3
        clear l1 l2 l3 HBAD
        go_wp2_with fail
        go_loopw [9] (fun s9 wi => ∃ j : Nat, j ≤ nn ∧ s9 = .int .i64 j ∧ Below w2.heap.size w2 wi) (fun s9 _ => nn - (intOf s9).toNat)
        case atStart => exact ⟨0, Nat.zero_le _, rfl, Below.refl _ _⟩
        case round =>
          obtain ⟨j, hj, rfl, hbi⟩ := hrel
          have HBI := Lib.hid hbi
          have HBX3 := Lib.hid (HBX2.out.below' hbi)
          clear hbi
          by_cases hjlt : j < nn
          · have hjltI : (j : Int) < (nn : Int) := by omega
            have hR3 := HRD2.out.below HBI.out (Nat.le_refl _)
            rw [HNN.out] at hR3
            obtain ⟨b5, off5, e5, hbl5⟩ := hR3.addr (by omega)
            subst e5
            have HR3 := Lib.hid hR3
            obtain ⟨d0, d1, d2, d3, d4⟩ := rd_re hR3 j (by rw [HNN.out]; exact hjlt)
            have hmem := at_mem (l := now) (i := j) (by rw [HNN.out]; exact hjlt)
            have hst := L3.out (at_ now j) hmem
            obtain ⟨y, hy⟩ : ∃ y, at_ now j = y := ⟨_, rfl⟩
            rw [hy] at d0 d1 d2 d3 d4 hst
            have HY := Lib.hid hy
            have HST := Lib.hid hst
            clear hmem hst hy hR3
            obtain ⟨y0, y1, y2, y3, y4⟩ := y
            dsimp only at d0 d1 d2 d3 d4 HST
            cases y3 with
            | true =>
              go_wp2_with fail
              go_roundw
              case rel => exact ⟨j + 1, by omega, by go_num, HBI.out⟩
              case measure => simp [intOf]; omega
            | false =>
              have HST2 := Lib.hid (HST.out rfl)
              clear HST
              go_wp2_with fail
              refine (held_any _ m y0 wr (rdN HNM.out (HO2.out.below HBI.out (Nat.le_refl _)))).mono ?_
              rintro e w4 ⟨rfl, hb4⟩
              have hst : stayB (k, (x0, x1, x2, x3, x4), r) (y0, y1, y2, false, y4) (heldR m y0) := HST2.out
              obtain ⟨oh, hoh⟩ : ∃ o, heldR m y0 = o := ⟨_, rfl⟩
              rw [hoh] at hst ⊢
              have HB4 := Lib.hid (below_then HBI.out hb4)
              clear hoh d0 d1 d2 d3 d4 HST2
              cases oh with
              | none =>
                simp only [optR, Option.getD_none, reV, reZ, Option.isSome_none]
                have hal := below_one w4 (.cells #[.int .i64 0, .int .i64 0, .int .u32 0, .bool false, .bool false] 52)
                have hbx := Bx.new w4 52 [.int .i64 0, .int .i64 0, .int .u32 0, .bool false, .bool false]
                change Bx (w4.alloc (.cells #[.int .i64 0, .int .i64 0, .int .u32 0, .bool false, .bool false] 52)) _ _ _ at hbx
                obtain ⟨q0, q1, q2, q3, q4, q5, q6⟩ := (HBX3.out.below' (hb4.trans (hal.mono hb4.size))).seven
                obtain ⟨z0, z1, z2, z3, z4⟩ := hbx.five
                have hR5 := (HR3.out.below (hb4.trans (hal.mono hb4.size)) (Nat.le_refl _))
                obtain ⟨d0, d1, d2, d3, d4⟩ := rd_re hR5 j (by rw [HNN.out]; exact hjlt)
                rw [HY.out] at d0 d1 d2 d3 d4
                dsimp only at d0 d1 d2 d3 d4
                have HBE := Lib.hid (below_then HB4.out hal)
                clear hal hbx hR5 hb4
                rcases hst with ⟨h1, h2⟩ | ⟨h1, h2⟩
                · dsimp only at h1 h2
                  subst h1 h2
                  go_wp2_with fail
                  go_quiet (fail)
                  go_wp2_with fail
                  go_quiet (fail)
                  go_wp2_with fail
                  go_quiet (fail)
                  go_wp2_with fail
                  go_roundw
                  case rel => exact ⟨j + 1, by omega, by go_num, below_drewN HBE.out _⟩
                  case measure => simp [intOf]; omega
                · dsimp only at h1 h2
                  subst h1 h2
                  go_wp2_with fail
                  go_quiet (fail)
                  go_wp2_with fail
                  go_quiet (fail)
                  go_wp2_with fail
                  go_quiet (fail)
                  go_wp2_with fail
                  go_roundw
                  case rel => exact ⟨j + 1, by omega, by go_num, below_drewN HBE.out _⟩
                  case measure => simp [intOf]; omega
              | some x =>
                obtain ⟨z0, z1, z2, z3, z4⟩ := x
                simp only [optR, Option.getD_some, reV, Option.isSome_some]
                have hal := below_one w4 (.cells #[.int .i64 z0, .int .i64 z1, .int .u32 z2, .bool z3, .bool z4] 52)
                have hbx := Bx.new w4 52 [.int .i64 z0, .int .i64 z1, .int .u32 z2, .bool z3, .bool z4]
                change Bx (w4.alloc (.cells #[.int .i64 z0, .int .i64 z1, .int .u32 z2, .bool z3, .bool z4] 52)) _ _ _ at hbx
                obtain ⟨q0, q1, q2, q3, q4, q5, q6⟩ := (HBX3.out.below' (hb4.trans (hal.mono hb4.size))).seven
                obtain ⟨p0, p1, p2, p3, p4⟩ := hbx.five
                have hR5 := (HR3.out.below (hb4.trans (hal.mono hb4.size)) (Nat.le_refl _))
                obtain ⟨d0, d1, d2, d3, d4⟩ := rd_re hR5 j (by rw [HNN.out]; exact hjlt)
                rw [HY.out] at d0 d1 d2 d3 d4
                dsimp only at d0 d1 d2 d3 d4
                have HBE := Lib.hid (below_then HB4.out hal)
                clear hal hbx hR5 hb4
                obtain ⟨h1, h2⟩ := hst
                dsimp only at h1 h2
                have h1d : decide (z1 < y1) = false := by simp; omega
                by_cases hgt : y1 < z1
                · obtain ⟨h3, h4⟩ := h2 hgt
                  subst h3 h4
                  have hgd : decide (z1 > y1) = true := by simp; omega
                  clear h2
                  go_wp2_with fail
                  go_quiet (fail)
                  go_wp2_with fail
                  go_quiet (fail)
                  go_wp2_with fail
                  go_quiet (fail)
                  go_wp2_with fail
                  go_roundw
                  case rel => exact ⟨j + 1, by omega, by go_num, below_drewN HBE.out _⟩
                  case measure => simp [intOf]; omega
                · have hgd : decide (z1 > y1) = false := by simp; omega
                  clear h2
                  go_wp2_with fail
                  go_quiet (fail)
                  go_wp2_with fail
                  go_quiet (fail)
                  go_wp2_with fail
                  go_quiet (fail)
                  go_wp2_with fail
                  go_roundw
                  case rel => exact ⟨j + 1, by omega, by go_num, below_drewN HBE.out _⟩
                  case measure => simp [intOf]; omega
          · obtain rfl : j = nn := by omega
            go_wp2_with fail
            refine (mayR_any _ m wr (rdN HNM.out (HO2.out.below HBI.out (Nat.le_refl _)))).mono ?_
            rintro e w5 ⟨rfl, hb5⟩
            rw [L1.out]
            obtain ⟨q0, q1, q2, q3, q4, q5, q6⟩ := (HBX3.out.below' hb5).seven
            have HB5 := Lib.hid (below_then (below_then HB3.out HBI.out) hb5)
            have HO5 := Lib.hid ((HO2.out.below HBI.out (Nat.le_refl _)).below hb5 (Nat.le_refl _))
            clear hb5
            by_cases hk : k = 0
            · subst hk
              by_cases hg : (nm : Int) > (j : Int)
              · have hle := L2.out rfl (by omega)
                go_wp2_with fail
                go_roundw
                case rel => exact ⟨i + 1, m, by omega, by go_num, by have := HNM.out; omega, L1.out, rdN HNM.out HO5.out, HB5.out⟩
                case measure => simp [intOf]; omega
              · go_wp2_with fail
                go_roundw
                case rel => exact ⟨i + 1, m, by omega, by go_num, by have := HNM.out; omega, L1.out, rdN HNM.out HO5.out, HB5.out⟩
                case measure => simp [intOf]; omega
            · go_wp2_with fail
              go_roundw
              case rel => exact ⟨i + 1, m, by omega, by go_num, by have := HNM.out; omega, L1.out, rdN HNM.out HO5.out, HB5.out⟩
              case measure => simp [intOf]; omega
      · have hz := HBAD.out ha
        subst hz
        go_wp2_with fail
        go_roundw
        case rel => exact ⟨i + 1, now, by omega, by go_num, by have := HNN.out; omega, HMAY.out, rdN HNN.out HRD2.out, HB3.out⟩
        case measure => simp [intOf]; omega
    · obtain rfl : i = n := by omega
      go_wp2_with fail
      go_ret
      exact ⟨rfl, HB2.out⟩

end Go.Proofs.Ytncgpojjibojlaa
