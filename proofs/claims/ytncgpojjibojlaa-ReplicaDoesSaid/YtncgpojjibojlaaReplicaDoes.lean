/- ReplicaDoes: the walk. -/
import Derived.Test.YtncgpojjibojlaaDid
import Derived.Test.YtncgpojjibojlaaReplicaStays
namespace Go.Proofs.Ytncgpojjibojlaa
open Go Go.RowKit Go.Sort

set_option maxHeartbeats 8000000 in
set_option maxRecDepth 100000 in
theorem replicaDoes_walk (v : Value) (l : List Re) (o : Oq) (W : World) (hR : Rd W 5 v l.length (l.flatMap reC)) :
    Calls Try.prog 9 #[v, .agg #[.int .i64 o.1, .int .i64 o.2.1.1, .int .i64 o.2.1.2.1, .int .u32 o.2.1.2.2.1, .bool o.2.1.2.2.2.1, .bool o.2.1.2.2.2.2, .int .i64 o.2.2]] W fun e w' => e = .returned (.bool true) ∧ Below W.heap.size W w' := by
  obtain ⟨k, ⟨x0, x1, x2, x3, x4⟩, r⟩ := o
  dsimp only
  obtain ⟨A, cap, hv, _, hnc⟩ := hR.shape
  subst hv
  have HR := Lib.hid hR
  clear hR
  obtain ⟨n, hn⟩ : ∃ n, l.length = n := ⟨_, rfl⟩
  have HN := Lib.hid hn
  rw [hn] at HR hnc ⊢
  clear hn
  have HRD : Hid (∀ w', Below W.heap.size W w' → Rd w' 5 (.slice A n cap) l.length (l.flatMap reC)) := fun w' hb => by have := HR.out.below hb (Nat.le_refl _); rw [HN.out]; exact this
  have hal := below_one W (.cells #[.int .i64 k, .int .i64 x0, .int .i64 x1, .int .u32 x2, .bool x3, .bool x4, .int .i64 r] 69)
  have hbx := Bx.new W 69 [.int .i64 k, .int .i64 x0, .int .i64 x1, .int .u32 x2, .bool x3, .bool x4, .int .i64 r]
  change Bx (W.alloc (.cells #[.int .i64 k, .int .i64 x0, .int .i64 x1, .int .u32 x2, .bool x3, .bool x4, .int .i64 r] 69)) _ _ _ at hbx
  go_enter Try.func9, Try.ntmps9
  go_wp2_with fail
  generalize (W.alloc (.cells #[.int .i64 k, .int .i64 x0, .int .i64 x1, .int .u32 x2, .bool x3, .bool x4, .int .i64 r] 69)) = w0 at *
  refine (awake10 w0).mono ?_
  rintro e w1 ⟨rfl, hb1⟩
  have HB1 := Lib.hid (below_then hal hb1)
  have HBX1 := Lib.hid (hbx.below' hb1)
  obtain ⟨B, hB⟩ : ∃ B, W.heap.size = B := ⟨_, rfl⟩
  have HBZ := Lib.hid hB
  rw [hB] at HBX1 ⊢
  clear hal hbx hb1 hB
  by_cases hn : 100 < n
  · have hni : (n : Int) > 100 := by omega
    go_wp2_with fail
    go_ret
    exact ⟨rfl, HBZ.out ▸ HB1.out⟩
  have hni : ¬ ((n : Int) > 100) := by omega
  have hll : l.length ≤ 100 := by have := HN.out; omega
  obtain ⟨q0, q1, q2, q3, q4, q5, q6⟩ := HBX1.out.seven
  go_wp2_with fail
  refine (does_any _ l (k, (x0, x1, x2, x3, x4), r) w1 (by omega) (HRD.out _ HB1.out)).mono ?_
  rintro e w2 ⟨v2, rfl, ho2, hb2⟩
  have hml := doR_len l (k, (x0, x1, x2, x3, x4), r)
  obtain ⟨⟨a, m⟩, hm⟩ : ∃ p, doR l (k, (x0, x1, x2, x3, x4), r) = p := ⟨_, rfl⟩
  rw [hm] at ho2 hml ⊢
  dsimp only at ho2 hml ⊢
  have HM := Lib.hid hm
  obtain ⟨A2, cap2, hv2⟩ := ho2.slice_
  subst hv2
  have HO2 := Lib.hid ho2.rd
  obtain ⟨nm, hnm⟩ : ∃ k, m.length = k := ⟨_, rfl⟩
  rw [hnm] at hml ⊢
  have HNM := Lib.hid hnm
  have HB2 := Lib.hid (below_then HB1.out hb2)
  have HBX2 := Lib.hid (HBX1.out.below' hb2)
  clear hm ho2 hnm hb2 q0 q1 q2 q3 q4 q5 q6 HBX1
  obtain ⟨q0, q1, q2, q3, q4, q5, q6⟩ := HBX2.out.seven
  go_wp2_with fail
  refine (did_any _ l (k, (x0, x1, x2, x3, x4), r) w2 (by omega) (HRD.out _ HB2.out)).mono ?_
  rintro e w3 ⟨v3, rfl, ho3, hb3⟩
  rw [HM.out] at ho3 ⊢
  dsimp only at ho3 ⊢
  obtain ⟨A3, cap3, hv3⟩ := ho3.slice_
  subst hv3
  have HO3 := Lib.hid ho3.rd
  rw [HNM.out]
  have HB3 := Lib.hid (below_then HB2.out hb3)
  have HBX3 := Lib.hid (HBX2.out.below' hb3)
  have HO23 := Lib.hid (HO2.out.below hb3 (Nat.le_refl _))
  clear ho3 hb3 q0 q1 q2 q3 q4 q5 q6 HBX2
  go_wp2_with fail
  refine (scrub_any _ l w3 (by omega) (HRD.out _ HB3.out)).mono ?_
  rintro e w4 ⟨v4, g4, rfl, _, hg4, hb4⟩
  obtain ⟨A4, cap4, hv4⟩ := hg4.slice_
  subst hv4
  have hbl : (badsI (fairR l)).length ≤ l.length := Nat.le_trans (badsI_len _) (fairR_len l)
  obtain ⟨bs, hbs⟩ : ∃ b, badsI (fairR l) = b := ⟨_, rfl⟩
  rw [hbs] at hg4 hbl ⊢
  have HBS := Lib.hid hbs
  have HG4 := Lib.hid hg4.rd
  obtain ⟨nb, hnb⟩ : ∃ k, bs.length = k := ⟨_, rfl⟩
  rw [hnb] at hbl ⊢
  have HNB := Lib.hid hnb
  have HB4 := Lib.hid (below_then HB3.out hb4)
  have HBX4 := Lib.hid (HBX3.out.below' hb4)
  have HO24 := Lib.hid (HO23.out.below hb4 (Nat.le_refl _))
  have HO34 := Lib.hid (HO3.out.below hb4 (Nat.le_refl _))
  clear hg4 hb4 hbs hnb HBX3
  go_wp2_with fail
  refine (rscrub_any _ l w4 (by omega) (HRD.out _ HB4.out)).mono ?_
  rintro e w5 ⟨v5, g5, rfl, _, hg5, hb5⟩
  rw [HBS.out] at hg5
  obtain ⟨A5, cap5, hv5⟩ := hg5.slice_
  subst hv5
  rw [HNB.out]
  have HG5 := Lib.hid (rdN HNB.out hg5.rd)
  have HG45 := Lib.hid (rdN HNB.out (HG4.out.below hb5 (Nat.le_refl _)))
  have HB5 := Lib.hid (below_then HB4.out hb5)
  have HBX5 := Lib.hid (HBX4.out.below' hb5)
  have HO25 := Lib.hid (HO24.out.below hb5 (Nat.le_refl _))
  have HO35 := Lib.hid (HO34.out.below hb5 (Nat.le_refl _))
  have hnb63 : nb ≤ 9223372036854775807 := by omega
  clear hg5 hb5 HBX4
  go_wp2_with fail
  go_loopw [14] (fun s14 wr => ∃ j : Nat, j ≤ nb ∧ s14 = .int .i64 j ∧ Below w5.heap.size w5 wr) (fun s14 _ => nb - (intOf s14).toNat)
  case atStart => exact ⟨0, Nat.zero_le _, rfl, Below.refl _ _⟩
  case round =>
    obtain ⟨j, hj, rfl, hbel⟩ := hrel
    have HBL := Lib.hid hbel
    clear hbel
    by_cases hlt : j < nb
    · have hltI : (j : Int) < (nb : Int) := by omega
      have h1 := HG45.out.below HBL.out (Nat.le_refl _)
      have h2 := HG5.out.below HBL.out (Nat.le_refl _)
      rw [HNB.out] at h1 h2
      obtain ⟨b1, o1, e1, _⟩ := h1.addr (by omega)
      subst e1
      obtain ⟨b2, o2, e2, _⟩ := h2.addr (by omega)
      subst e2
      have c1 := rd_int h1 j (by rw [HNB.out]; exact hlt)
      have c2 := rd_int h2 j (by rw [HNB.out]; exact hlt)
      obtain ⟨z, hz⟩ : ∃ z, at_ bs j = z := ⟨_, rfl⟩
      rw [hz] at c1 c2
      have hzz : (z != z) = false := by simp
      clear h1 h2 hz
      go_wp2_with fail
      go_quiet (fail)
      go_wp2_with fail
      go_roundw
      case rel => exact ⟨j + 1, by omega, by go_num, below_drewN HBL.out _⟩
      case measure => simp [intOf]; omega
    · obtain rfl : j = nb := by omega
      have HB6 := Lib.hid (below_then HB5.out HBL.out)
      have HO26 := Lib.hid (HO25.out.below HBL.out (Nat.le_refl _))
      have HO36 := Lib.hid (HO35.out.below HBL.out (Nat.le_refl _))
      have HBX6 := Lib.hid (HBX5.out.below' HBL.out)
      go_wp2_with fail
      refine (same_re _ _ m m wr (rdN HNM.out HO26.out) (rdN HNM.out HO36.out)).mono ?_
      rintro e w7 ⟨rfl, hb7⟩
      rw [decide_eq_true rfl]
      have HB7 := Lib.hid (below_then HB6.out hb7)
      have HBX7 := Lib.hid (HBX6.out.below' hb7)
      clear hb7 HBX6
      have haa : (a == a) = true := by simp
      obtain ⟨q0, q1, q2, q3, _, _, _⟩ := HBX7.out.seven
      have em : (mayR l == mayR l) = true := by simp
      have eh : (hasR l x0 x1 x2 == hasR l x0 x1 x2) = true := by simp
      have F0 := fun d os => cell_regrown q0 d os
      have F1 := fun d os => cell_regrown q1 d os
      have F2 := fun d os => cell_regrown q2 d os
      have F3 := fun d os => cell_regrown q3 d os
      go_wp2_with fail
      refine wp_region_quiet_below (by kernel_rfl) (by kernel_rfl) ?_
      repeat (go_big_quiet_step ((first
        | (go_at_call 33; exact Calls.regrown_of (mayR_any _ l _ (HRD.out _ (below_then HB7.out (below_regrown _ _ _)))))
        | (go_at_call 43; exact Calls.regrown_of (rmay_any _ l _ (HRD.out _ (below_then HB7.out (below_regrown _ _ _)))))
        | (go_at_call 32; exact Calls.regrown_of (has_any _ l x0 x1 x2 _ (by omega) (HRD.out _ (below_then HB7.out (below_regrown _ _ _)))))
        | (go_at_call 44; exact Calls.regrown_of (rhas_any _ l x0 x1 x2 _ (by omega) (HRD.out _ (below_then HB7.out (below_regrown _ _ _))))))))
      refine wpQuiet_nil ?_
      intro _ hw'
      obtain ⟨⟨dd, os⟩, hw''⟩ := hw'
      subst hw''
      go_wp2_with fail
      go_ret
      exact ⟨by first | rfl | trivial | simp, HBZ.out ▸ below_then HB7.out (below_regrown _ _ _)⟩

end Go.Proofs.Ytncgpojjibojlaa
