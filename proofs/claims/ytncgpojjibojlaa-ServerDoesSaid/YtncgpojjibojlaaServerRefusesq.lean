/- ServerRefuses: the walk. -/
import Derived.Test.YtncgpojjibojlaaGgq
import Derived.Test.YtncgpojjibojlaaDoes11q
import Derived.Test.YtncgpojjibojlaaSameReq
import Derived.Test.YtncgpojjibojlaaReplicaRemovesq
namespace Go.Proofs.Ytncgpojjibojlaa
open Go Go.RowKit Go.Sort

theorem fewO_le {l : List Op11} (h : fewO l = true) : l.length ≤ 60 := by
  unfold fewO at h
  rw [Bool.and_eq_true] at h
  simpa using h.1
theorem bgn_refuse {s : Sv} {c v u : Int} {d : List Nat} (h : ¬ (((sumC d : Nat) : Int) = u ∧ d.length ≤ 64)) : bgnS s c v u d = (if 64 < d.length then 7 else 4, s) := by
  unfold bgnS
  by_cases h1 : 64 < d.length
  · rw [if_pos h1, if_pos h1]
  · rw [if_neg h1, if_neg h1, if_pos (fun e => h ⟨e, by omega⟩)]
theorem SrvAt.off_newS {w w' : World} {G : Nat → Prop} {p k : Nat} {s : Sv} (h : SrvAt w G p k s) {size n : Nat} {v : Value} {xs : List Value} {t : TypeId} (ho : Own w' w.heap.size t size v n xs) : ∀ g, blk v = some g → ¬ G g := fun g hg hG => by
  obtain ⟨lv, mb, F, h⟩ := h
  have := h.lt g hG
  have := (ho.blk_lt hg).1
  omega
/-- Ahead of the next op: so many are done. -/
def StS (W : World) (p n : Nat) (s16 : Value) (wr : World) : Prop := ∃ (i : Nat) (s : Sv) (G : Nat → Prop), i ≤ n ∧ s16 = .int .i64 i ∧ SrvAt wr G p i s ∧ OkS s ∧ (∀ j, G j → W.heap.size ≤ j) ∧ Below W.heap.size W wr

set_option maxHeartbeats 8000000 in
set_option maxRecDepth 1000000 in
theorem serverRefuses_walk (room : Int) (ov : Value) (ops : List Op11) (c v told : Int) (dv : Value) (d : List Nat) (W : World) (hr : wfI room) (hO : (∀ o ∈ ops, okO W o) ∧ Rd W 7 ov ops.length (ops.flatMap o1C)) (hc : wfI c) (hv : wfI v) (ht : (Lit.int .u32 told).wf = true) (hDd : okB d ∧ Rd W 1 dv d.length (d.flatMap byC)) :
    Calls Try.prog 4 #[.int .i64 room, ov, .int .i64 c, .int .i64 v, .int .u32 told, dv] W fun e w' => e = .returned (.bool true) ∧ Below W.heap.size W w' := by
  have HC := Lib.hid hc
  clear hr hc hv ht
  obtain ⟨hop, hRo⟩ := hO
  obtain ⟨hokd, hRd⟩ := hDd
  obtain ⟨Ad, capd, hvd, _, hncd⟩ := hRd.shape
  subst hvd
  obtain ⟨nd, hnd⟩ : ∃ n, d.length = n := ⟨_, rfl⟩
  have HNd := Lib.hid hnd
  rw [hnd] at hRd hncd ⊢
  have HRd : Hid (∀ w', Below W.heap.size W w' → Rd w' 1 (.slice Ad nd capd) d.length (d.flatMap byC)) := fun w' hb => by rw [HNd.out]; exact hRd.below hb (Nat.le_refl _)
  have HFd : Hid (∀ G : Nat → Prop, (∀ i, G i → W.heap.size ≤ i) → OffG G (.slice Ad nd capd)) := fun G hG => hRd.offB hG
  have HOd := Lib.hid hokd
  clear hokd hRd hnd hncd
  obtain ⟨A, cap, hvo, _, hnc⟩ := hRo.shape
  subst hvo
  obtain ⟨n, hn⟩ : ∃ n, ops.length = n := ⟨_, rfl⟩
  have HN := Lib.hid hn
  rw [hn] at hRo hnc ⊢
  have HR := Lib.hid hRo
  have HOP := Lib.hid hop
  clear hRo hn hop
  go_enter Try.func4, Try.ntmps4
  go_wp2_with fail
  refine (awake11 W).mono ?_
  rintro e w1 ⟨rfl, hb1⟩
  have HB1 := Lib.hid hb1
  clear hb1
  go_wp2_with fail
  refine (few_any _ ops w1 (fun o ho => ⟨(HOP.out o ho).1, (HOP.out o ho).2.1, (HOP.out o ho).2.2.below HB1.out (Nat.le_refl _)⟩) (by rw [HN.out]; exact HR.out.below HB1.out (Nat.le_refl _))).mono ?_
  rintro e w1b ⟨rfl, rfl⟩
  obtain ⟨fb, hfb⟩ : ∃ b, fewO ops = b := ⟨_, rfl⟩
  have HFB := Lib.hid hfb
  rw [hfb]
  clear hfb
  go_wp2_with fail
  refine (snew_any room w1b).mono ?_
  rintro e w2 ⟨p, G2, rfl, hs2, hg2, hb2⟩
  have HS2 := Lib.hid hs2
  have HB2 := Lib.hid (below_then HB1.out hb2)
  have HG2 : Hid (∀ i, G2 i → W.heap.size ≤ i) := fun i hi => Nat.le_trans HB1.out.size (hg2 i hi)
  clear hs2 hg2 hb2
  cases fb with
  | false =>
    go_wp2_with fail
    go_ret
    exact ⟨rfl, HB2.out⟩
  | true =>
  have hn60 : n ≤ 60 := by have := fewO_le HFB.out; have := HN.out; omega
  by_cases hbig : 100 < nd
  · have hbI : (nd : Int) > 100 := by omega
    go_wp2_with fail
    go_ret
    exact ⟨rfl, HB2.out⟩
  have hbI : ¬ ((nd : Int) > 100) := by omega
  go_wp2_with fail
  go_loopw [16] (StS W p n) (fun s16 _ => n - (intOf s16).toNat)
  case atStart => exact ⟨0, _, G2, Nat.zero_le _, rfl, HS2.out, OkS.new room, HG2.out, HB2.out⟩
  case round =>
    clear HB1 HS2 HB2 HG2
    obtain ⟨i, s, G, hi, rfl, hs, hok, hg, hb⟩ := hrel
    have HS := Lib.hid hs
    have HOK := Lib.hid hok
    have HG := Lib.hid hg
    have HB := Lib.hid hb
    clear hs hok hg hb
    by_cases hlt : i < n
    · have hltI : (i : Int) < (n : Int) := by omega
      have hR1 := HR.out.below HB.out (Nat.le_refl _)
      obtain ⟨b, off, hA, hbl⟩ := hR1.addr (by omega)
      subst hA
      obtain ⟨c0, c1, c2, c3, c4, c5, c6⟩ := rd_o1 hR1 i (by rw [HN.out]; exact hlt)
      have hoo := HOP.out _ (at_mem (l := ops) (i := i) (by rw [HN.out]; exact hlt))
      obtain ⟨⟨kk, ch, vv, bt, sm, rt, ov, od⟩, ho⟩ : ∃ o, at_ ops i = o := ⟨_, rfl⟩
      rw [ho] at c0 c1 c2 c3 c4 c5 c6 hoo
      have HOO := Lib.hid hoo
      dsimp only at c0 c1 c2 c3 c4 c5 c6
      clear ho hoo hR1 hbl
      go_wp2_with fail
      refine (sdoes_any p i ⟨kk, ch, vv, bt, sm, rt, ov, od⟩ s G wr ⟨HOO.out.1, HOO.out.2.1, HOO.out.2.2.below HB.out (Nat.le_refl _)⟩ (HOO.out.2.2.offB HG.out) (by omega) HOK.out HS.out).mono ?_
      rintro e w3 ⟨v3, G3, rfl, ho3, _, hs3, hst3⟩
      have hbase3 := hst3.base HB.out.size HG.out
      have HS3 := Lib.hid hs3
      have HB3 := Lib.hid (HB.out.trans hbase3.1)
      have HG3 := Lib.hid hbase3.2
      have HOK3 := Lib.hid (HOK.out.doS (o := ⟨kk, ch, vv, bt, sm, rt, ov, od⟩) HOO.out.2.1)
      clear ho3 hs3 hst3 hbase3 c0 c1 c2 c3 c4 c5 c6
      go_wp2_with fail
      go_roundw
      case rel => exact ⟨i + 1, _, G3, by omega, by go_num, HS3.out, HOK3.out, HG3.out, HB3.out⟩
      case measure => simp [intOf]; omega
    · have hltI : ¬ ((i : Int) < (n : Int)) := by omega
      go_wp2_with fail
      refine (sum_any _ d wr HOd.out (HRd.out _ HB.out)).mono ?_
      rintro e w3 ⟨rfl, hb3⟩
      have HB3 := Lib.hid (HB.out.trans (hb3.mono HB.out.size))
      have HS3 := Lib.hid (HS.out.below_ hb3)
      obtain ⟨su, hsu⟩ : ∃ x, ((sumC d : Nat) : Int) = x := ⟨_, rfl⟩
      have HSU := Lib.hid hsu
      rw [hsu]
      clear hb3 hsu
      by_cases hlong : 64 < nd
      · have hlI : ¬ ((nd : Int) ≤ 64) := by omega
        have hlG : (nd : Int) > 64 := by omega
        have hno : ¬ (((sumC d : Nat) : Int) = told ∧ d.length ≤ 64) := fun h => by have := HNd.out; omega
        have hq := bgn_refuse (s := s) (c := c) (v := v) hno
        rw [if_pos (by have := HNd.out; omega)] at hq
        have HQ := Lib.hid hq
        clear hno hq
        by_cases ht : su = told
        · have ht2 := ht.symm; subst ht2
          go_wp2_with fail
          refine (sreport_any p i s G w3 (by have := HOK.out.l16; omega) HS3.out).mono ?_
          rintro e w4 ⟨v4, rfl, ho4, hb4⟩
          obtain ⟨m, hm⟩ : ∃ m, (rstR s.l).length = m := ⟨_, rfl⟩
          have HM := Lib.hid hm
          obtain ⟨A4, cap4, e4⟩ := ho4.slice_
          subst e4
          rw [hm]
          have HX4 := Lib.hid (⟨ho4, HS3.out.off_newS ho4⟩ : _ ∧ _)
          have HB4 := Lib.hid (HB3.out.trans (hb4.mono HB3.out.size))
          have HS4 := Lib.hid (HS3.out.below_ hb4)
          clear ho4 hb4 hm
          go_wp2_with fail
          refine (slen_any p i s G w4 HS4.out).mono ?_
          rintro e w4b ⟨rfl, rfl⟩
          obtain ⟨ln, hln⟩ : ∃ x, (s.l.length : Int) = x := ⟨_, rfl⟩
          have HLN := Lib.hid hln
          rw [hln]
          clear hln
          go_wp2_with fail
          refine (sbegin_any p i c v told _ d s G w4 HC.out (by have := HOK.out.l16; omega) (by omega) HOd.out (HRd.out _ HB4.out) (HFd.out _ HG.out) HS4.out).mono ?_
          rintro e w5 ⟨G5, rfl, hs5, hst5⟩
          rw [HQ.out] at hs5 ⊢
          dsimp only at hs5 ⊢
          have HS5 := Lib.hid hs5
          have hbase5 := hst5.base HB4.out.size HG.out
          have HB5 := Lib.hid (HB4.out.trans hbase5.1)
          have HX5 := Lib.hid (hst5.own HX4.out.1 HX4.out.2)
          clear hs5 hst5 hbase5
          go_wp2_with fail
          refine (sreport_any p (i + 1) s G5 w5 (by have := HOK.out.l16; omega) HS5.out).mono ?_
          rintro e w6 ⟨v6, rfl, ho6, hb6⟩
          obtain ⟨A6, cap6, e6⟩ := ho6.slice_
          subst e6
          have HX6 := Lib.hid (HX5.out.1.below hb6 (Nat.le_refl _))
          have HO6 := Lib.hid ho6
          have HB6 := Lib.hid (HB5.out.trans (hb6.mono HB5.out.size))
          have HS6 := Lib.hid (HS5.out.below_ hb6)
          rw [HM.out]
          clear ho6 hb6
          go_wp2_with fail
          refine (same_re _ _ (rstR s.l) (rstR s.l) w6 (rdN HM.out HO6.out.rd) (rdN HM.out HX6.out.rd)).mono ?_
          rintro e w7 ⟨rfl, hb7⟩
          rw [decide_eq_true rfl]
          have HB7 := Lib.hid (HB6.out.trans (hb7.mono HB6.out.size))
          have HS7 := Lib.hid (HS6.out.below_ hb7)
          clear hb7
          go_wp2_with (first
            | (go_at_call 26; refine (slen_any p (i + 1) s G5 w7 HS7.out).mono ?_; rintro e w8 ⟨rfl, rfl⟩; rw [HLN.out]))
          go_ret
          exact ⟨rfl, HB7.out⟩
        · have htI : (su == told) = false := by simpa using ht
          go_wp2_with fail
          refine (sreport_any p i s G w3 (by have := HOK.out.l16; omega) HS3.out).mono ?_
          rintro e w4 ⟨v4, rfl, ho4, hb4⟩
          obtain ⟨m, hm⟩ : ∃ m, (rstR s.l).length = m := ⟨_, rfl⟩
          have HM := Lib.hid hm
          obtain ⟨A4, cap4, e4⟩ := ho4.slice_
          subst e4
          rw [hm]
          have HX4 := Lib.hid (⟨ho4, HS3.out.off_newS ho4⟩ : _ ∧ _)
          have HB4 := Lib.hid (HB3.out.trans (hb4.mono HB3.out.size))
          have HS4 := Lib.hid (HS3.out.below_ hb4)
          clear ho4 hb4 hm
          go_wp2_with fail
          refine (slen_any p i s G w4 HS4.out).mono ?_
          rintro e w4b ⟨rfl, rfl⟩
          obtain ⟨ln, hln⟩ : ∃ x, (s.l.length : Int) = x := ⟨_, rfl⟩
          have HLN := Lib.hid hln
          rw [hln]
          clear hln
          go_wp2_with fail
          refine (sbegin_any p i c v told _ d s G w4 HC.out (by have := HOK.out.l16; omega) (by omega) HOd.out (HRd.out _ HB4.out) (HFd.out _ HG.out) HS4.out).mono ?_
          rintro e w5 ⟨G5, rfl, hs5, hst5⟩
          rw [HQ.out] at hs5 ⊢
          dsimp only at hs5 ⊢
          have HS5 := Lib.hid hs5
          have hbase5 := hst5.base HB4.out.size HG.out
          have HB5 := Lib.hid (HB4.out.trans hbase5.1)
          have HX5 := Lib.hid (hst5.own HX4.out.1 HX4.out.2)
          clear hs5 hst5 hbase5
          go_wp2_with fail
          refine (sreport_any p (i + 1) s G5 w5 (by have := HOK.out.l16; omega) HS5.out).mono ?_
          rintro e w6 ⟨v6, rfl, ho6, hb6⟩
          obtain ⟨A6, cap6, e6⟩ := ho6.slice_
          subst e6
          have HX6 := Lib.hid (HX5.out.1.below hb6 (Nat.le_refl _))
          have HO6 := Lib.hid ho6
          have HB6 := Lib.hid (HB5.out.trans (hb6.mono HB5.out.size))
          have HS6 := Lib.hid (HS5.out.below_ hb6)
          rw [HM.out]
          clear ho6 hb6
          go_wp2_with fail
          refine (same_re _ _ (rstR s.l) (rstR s.l) w6 (rdN HM.out HO6.out.rd) (rdN HM.out HX6.out.rd)).mono ?_
          rintro e w7 ⟨rfl, hb7⟩
          rw [decide_eq_true rfl]
          have HB7 := Lib.hid (HB6.out.trans (hb7.mono HB6.out.size))
          have HS7 := Lib.hid (HS6.out.below_ hb7)
          clear hb7
          go_wp2_with (first
            | (go_at_call 26; refine (slen_any p (i + 1) s G5 w7 HS7.out).mono ?_; rintro e w8 ⟨rfl, rfl⟩; rw [HLN.out]))
          go_ret
          exact ⟨rfl, HB7.out⟩
      · have hlI : (nd : Int) ≤ 64 := by omega
        have hlG : ¬ ((nd : Int) > 64) := by omega
        by_cases ht : su = told
        · have ht2 := ht.symm; subst ht2
          go_wp2_with fail
          go_ret
          exact ⟨rfl, HB3.out⟩
        · have htI : (su == told) = false := by simpa using ht
          have hno : ¬ (((sumC d : Nat) : Int) = told ∧ d.length ≤ 64) := fun h => ht (HSU.out.symm.trans h.1)
          have hq := bgn_refuse (s := s) (c := c) (v := v) hno
          rw [if_neg (by have := HNd.out; omega)] at hq
          have HQ := Lib.hid hq
          clear hno hq
          go_wp2_with fail
          refine (sreport_any p i s G w3 (by have := HOK.out.l16; omega) HS3.out).mono ?_
          rintro e w4 ⟨v4, rfl, ho4, hb4⟩
          obtain ⟨m, hm⟩ : ∃ m, (rstR s.l).length = m := ⟨_, rfl⟩
          have HM := Lib.hid hm
          obtain ⟨A4, cap4, e4⟩ := ho4.slice_
          subst e4
          rw [hm]
          have HX4 := Lib.hid (⟨ho4, HS3.out.off_newS ho4⟩ : _ ∧ _)
          have HB4 := Lib.hid (HB3.out.trans (hb4.mono HB3.out.size))
          have HS4 := Lib.hid (HS3.out.below_ hb4)
          clear ho4 hb4 hm
          go_wp2_with fail
          refine (slen_any p i s G w4 HS4.out).mono ?_
          rintro e w4b ⟨rfl, rfl⟩
          obtain ⟨ln, hln⟩ : ∃ x, (s.l.length : Int) = x := ⟨_, rfl⟩
          have HLN := Lib.hid hln
          rw [hln]
          clear hln
          go_wp2_with fail
          refine (sbegin_any p i c v told _ d s G w4 HC.out (by have := HOK.out.l16; omega) (by omega) HOd.out (HRd.out _ HB4.out) (HFd.out _ HG.out) HS4.out).mono ?_
          rintro e w5 ⟨G5, rfl, hs5, hst5⟩
          rw [HQ.out] at hs5 ⊢
          dsimp only at hs5 ⊢
          have HS5 := Lib.hid hs5
          have hbase5 := hst5.base HB4.out.size HG.out
          have HB5 := Lib.hid (HB4.out.trans hbase5.1)
          have HX5 := Lib.hid (hst5.own HX4.out.1 HX4.out.2)
          clear hs5 hst5 hbase5
          go_wp2_with fail
          refine (sreport_any p (i + 1) s G5 w5 (by have := HOK.out.l16; omega) HS5.out).mono ?_
          rintro e w6 ⟨v6, rfl, ho6, hb6⟩
          obtain ⟨A6, cap6, e6⟩ := ho6.slice_
          subst e6
          have HX6 := Lib.hid (HX5.out.1.below hb6 (Nat.le_refl _))
          have HO6 := Lib.hid ho6
          have HB6 := Lib.hid (HB5.out.trans (hb6.mono HB5.out.size))
          have HS6 := Lib.hid (HS5.out.below_ hb6)
          rw [HM.out]
          clear ho6 hb6
          go_wp2_with fail
          refine (same_re _ _ (rstR s.l) (rstR s.l) w6 (rdN HM.out HO6.out.rd) (rdN HM.out HX6.out.rd)).mono ?_
          rintro e w7 ⟨rfl, hb7⟩
          rw [decide_eq_true rfl]
          have HB7 := Lib.hid (HB6.out.trans (hb7.mono HB6.out.size))
          have HS7 := Lib.hid (HS6.out.below_ hb7)
          clear hb7
          go_wp2_with (first
            | (go_at_call 26; refine (slen_any p (i + 1) s G5 w7 HS7.out).mono ?_; rintro e w8 ⟨rfl, rfl⟩; rw [HLN.out]))
          go_ret
          exact ⟨rfl, HB7.out⟩

end Go.Proofs.Ytncgpojjibojlaa
