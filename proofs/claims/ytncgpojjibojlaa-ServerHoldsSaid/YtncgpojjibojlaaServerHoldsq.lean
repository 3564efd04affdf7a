/- ServerHolds: the walk. -/
import Derived.Test.YtncgpojjibojlaaGgq
import Derived.Test.YtncgpojjibojlaaHoldLq
import Derived.Test.YtncgpojjibojlaaServerRefusesq
namespace Go.Proofs.Ytncgpojjibojlaa
open Go Go.RowKit Go.Sort

/-- Ahead of the next op: so many are done. -/
def StH (W : World) (R c u : Int) (d : List Nat) (p n : Nat) (s14 : Value) (wr : World) : Prop := ∃ (i : Nat) (s : Sv) (G : Nat → Prop), i ≤ n ∧ s14 = .int .i64 i ∧ SrvAt wr G p (i + 2) s ∧ HeldS R c u d s ∧ (∀ j, G j → W.heap.size ≤ j) ∧ Below W.heap.size W wr

set_option maxHeartbeats 8000000 in
set_option maxRecDepth 1000000 in
theorem serverHolds_walk (room : Int) (ov : Value) (ops : List Op11) (c : Int) (dv : Value) (d : List Nat) (W : World) (hr : wfI room) (hO : (∀ o ∈ ops, okO W o) ∧ Rd W 7 ov ops.length (ops.flatMap o1C)) (hc : wfI c) (hDd : okB d ∧ Rd W 1 dv d.length (d.flatMap byC)) :
    Calls Try.prog 14 #[.int .i64 room, ov, .int .i64 c, dv] W fun e w' => e = .returned (.bool true) ∧ Below W.heap.size W w' := by
  have HC := Lib.hid hc
  clear hr hc
  obtain ⟨hop, hRo⟩ := hO
  obtain ⟨hokd, hRd⟩ := hDd
  obtain ⟨Ad, capd, hvd, _, hncd⟩ := hRd.shape
  subst hvd
  obtain ⟨nd, hnd⟩ : ∃ n, d.length = n := ⟨_, rfl⟩
  have HNd := Lib.hid hnd
  rw [hnd] at hRd hncd ⊢
  have HRd : Hid (∀ w', Below W.heap.size W w' → Rd w' 1 (.slice Ad nd capd) d.length (d.flatMap byC)) := fun w' hb => by rw [HNd.out]; exact hRd.below hb (Nat.le_refl _)
  have HFd : Hid (∀ G : Nat → Prop, (∀ i, G i → W.heap.size ≤ i) → OffG G (.slice Ad nd capd)) := fun G hG => hRd.offB hG
  have HOd := Lib.hid hokd
  clear hokd hRd hnd hncd
  obtain ⟨A, cap, hvo, _, hnc⟩ := hRo.shape
  subst hvo
  obtain ⟨n, hn⟩ : ∃ n, ops.length = n := ⟨_, rfl⟩
  have HN := Lib.hid hn
  rw [hn] at hRo hnc ⊢
  have HR := Lib.hid hRo
  have HOP := Lib.hid hop
  clear hRo hn hop
  go_enter Try.func14, Try.ntmps14
  go_wp2_with fail
  refine (awake11 W).mono ?_
  rintro e w1 ⟨rfl, hb1⟩
  have HB1 := Lib.hid hb1
  clear hb1
  go_wp2_with fail
  refine (few_any _ ops w1 (fun o ho => ⟨(HOP.out o ho).1, (HOP.out o ho).2.1, (HOP.out o ho).2.2.below HB1.out (Nat.le_refl _)⟩) (by rw [HN.out]; exact HR.out.below HB1.out (Nat.le_refl _))).mono ?_
  rintro e w1b ⟨rfl, rfl⟩
  obtain ⟨fb, hfb⟩ : ∃ b, fewO ops = b := ⟨_, rfl⟩
  have HFB := Lib.hid hfb
  rw [hfb]
  clear hfb
  go_wp2_with fail
  refine (snew_any room w1b).mono ?_
  rintro e w2 ⟨p, G2, rfl, hs2, hg2, hb2⟩
  have HS2 := Lib.hid hs2
  have HB2 := Lib.hid (below_then HB1.out hb2)
  have HG2 : Hid (∀ i, G2 i → W.heap.size ≤ i) := fun i hi => Nat.le_trans HB1.out.size (hg2 i hi)
  clear hs2 hg2 hb2
  cases fb with
  | false =>
    go_wp2_with fail
    go_ret
    exact ⟨rfl, HB2.out⟩
  | true =>
  have hn60 : n ≤ 60 := by have := fewO_le HFB.out; have := HN.out; omega
  by_cases hla : (nd : Int) > 64
  · go_wp2_with fail
    go_ret
    exact ⟨rfl, HB2.out⟩
  by_cases hc1 : c < 1
  · go_wp2_with fail
    go_ret
    exact ⟨rfl, HB2.out⟩
  by_cases hc2 : c > 1048576
  · go_wp2_with fail
    go_ret
    exact ⟨rfl, HB2.out⟩
  obtain ⟨su, hsu⟩ : ∃ x, ((sumC d : Nat) : Int) = x := ⟨_, rfl⟩
  have HSU := Lib.hid hsu
  have HNM := Lib.hid (show namedB c 1 = true by simp [namedB]; omega)
  have HDL : Hid (d.length ≤ 64) := by have := HNd.out; exact Lib.hid (by omega)
  clear hsu
  go_wp2_with fail
  refine (sum_any _ d w2 HOd.out (HRd.out _ HB2.out)).mono ?_
  rintro e w3 ⟨rfl, hb3⟩
  have HB3 := Lib.hid (HB2.out.trans (hb3.mono HB2.out.size))
  have HG3 := HG2
  have HS3 := Lib.hid (HS2.out.below_ hb3)
  clear hb3
  rw [HSU.out]
  go_wp2_with fail
  refine (sbegin_any p 0 c 1 su _ d (newS room) _ w3 HC.out (by simp [newS]) (by omega) HOd.out (HRd.out _ HB3.out) (HFd.out _ HG3.out) HS3.out).mono ?_
  rintro e w4 ⟨G4, rfl, hs4, hst4⟩
  have hbase4 := hst4.base HB3.out.size HG3.out
  have HB4 := Lib.hid (HB3.out.trans hbase4.1)
  have HG4 := Lib.hid hbase4.2
  clear hst4 hbase4
  by_cases hr1 : room < 1
  · rw [new_full HDL.out HSU.out HNM.out hr1] at hs4 ⊢
    dsimp only at hs4 ⊢
    clear hs4
    go_wp2_with fail
    go_ret
    exact ⟨rfl, HB4.out⟩
  have hR1 : 1 ≤ (newS room).room := by simp only [newS]; omega
  rw [new_bgn_ok HDL.out HSU.out HNM.out hR1] at hs4 ⊢
  dsimp only at hs4 ⊢
  obtain ⟨R, hR⟩ : ∃ x, (newS room).room = x := ⟨_, rfl⟩
  have HRR : Hid (room ≤ 16 → R ≤ room) := by
    rw [← hR]
    exact Lib.hid (fun h => by simp only [newS]; omega)
  have hR16 : R ≤ 16 := by rw [← hR]; simp only [newS]; omega
  rw [hR] at hs4 hR1
  have HS4 := Lib.hid hs4
  have HHN := Lib.hid (HeldS.one (ok_one (u := su) HNM.out hR1 hR16 HDL.out HOd.out) HSU.out)
  clear hs4 hR hR1 hR16
  go_wp2_with fail
  refine (scommit_any p 1 c 1 (oneT R c 1 su d) _ w4 HC.out (by simp [oneT]) (by omega) HS4.out).mono ?_
  rintro e w5 ⟨G5, rfl, hs5, hst5⟩
  rw [oneT_cmt HNM.out] at hs5 ⊢
  try dsimp only at hs5 ⊢
  have HS5 := Lib.hid hs5
  have hbase5 := hst5.base HB4.out.size HG4.out
  have HB5 := Lib.hid (HB4.out.trans hbase5.1)
  have HG5 := Lib.hid hbase5.2
  clear hs5 hst5 hbase5
  go_wp2_with fail
  go_loopw [14] (StH W R c su d p n) (fun s14 _ => n - (intOf s14).toNat)
  case atStart => exact ⟨0, _, G5, Nat.zero_le _, rfl, HS5.out, HHN.out, HG5.out, HB5.out⟩
  case round =>
    clear HB1 HS2 HB2 HG2 HB3 HG3 HS3 HB4 HG4 HS4 HB5 HG5 HS5 HHN
    obtain ⟨i, s, G, hi, rfl, hs, hhe, hg, hb⟩ := hrel
    have HS := Lib.hid hs
    have HHE := Lib.hid hhe
    have HG := Lib.hid hg
    have HB := Lib.hid hb
    clear hs hhe hg hb
    by_cases hlt : i < n
    · have hltI : (i : Int) < (n : Int) := by omega
      have hR1 := HR.out.below HB.out (Nat.le_refl _)
      obtain ⟨b, off, hA, hbl⟩ := hR1.addr (by omega)
      subst hA
      obtain ⟨c0, c1, c2, c3, c4, c5, c6⟩ := rd_o1 hR1 i (by rw [HN.out]; exact hlt)
      have hoo := HOP.out _ (at_mem (l := ops) (i := i) (by rw [HN.out]; exact hlt))
      obtain ⟨⟨kk, ch, vv, bt, sm, rt, ov, od⟩, ho⟩ : ∃ o, at_ ops i = o := ⟨_, rfl⟩
      rw [ho] at c0 c1 c2 c3 c4 c5 c6 hoo
      obtain ⟨Ao, capo, hvo, _, hnco⟩ := hoo.2.2.shape
      dsimp only at hvo
      subst hvo
      have HOO := Lib.hid hoo
      dsimp only at c0 c1 c2 c3 c4 c5 c6
      clear hnco ho hoo hR1 hbl
      have hal := below_one wr (.cells #[.int .i64 kk, .int .i64 ch, .int .i64 vv, .int .i64 bt, .int .u32 sm, .bool rt, .slice Ao od.length capo] 36)
      have hbx := Bx.new wr 36 [.int .i64 kk, .int .i64 ch, .int .i64 vv, .int .i64 bt, .int .u32 sm, .bool rt, .slice Ao od.length capo]
      change Bx (wr.alloc (.cells #[.int .i64 kk, .int .i64 ch, .int .i64 vv, .int .i64 bt, .int .u32 sm, .bool rt, .slice Ao od.length capo] 36)) _ _ _ at hbx
      obtain ⟨q0, q1, q2, q3, q4, q5, q6⟩ := hbx.sevn
      have HSA := Lib.hid (HS.out.below_ hal)
      have HBA := Lib.hid (HB.out.trans (hal.mono HB.out.size))
      clear hal hbx
      by_cases h7 : kk = 7
      · subst h7
        go_wp2_with fail
        go_roundw
        case rel => exact ⟨i + 1, _, G, by omega, by go_num, HSA.out.up, HHE.out, HG.out, HBA.out⟩
        case measure => simp [intOf]; omega
      have h7I : (kk == 7) = false := by simpa using h7
      by_cases h8 : kk > 7
      · go_wp2_with fail
        go_roundw
        case rel => exact ⟨i + 1, _, G, by omega, by go_num, HSA.out.up, HHE.out, HG.out, HBA.out⟩
        case measure => simp [intOf]; omega
      by_cases h0 : kk < 0
      · go_wp2_with fail
        go_roundw
        case rel => exact ⟨i + 1, _, G, by omega, by go_num, HSA.out.up, HHE.out, HG.out, HBA.out⟩
        case measure => simp [intOf]; omega
      by_cases hcc : ch = c
      · subst hcc
        by_cases h1 : kk = 1
        · subst h1
          go_wp2_with fail
          go_roundw
          case rel => exact ⟨i + 1, _, G, by omega, by go_num, HSA.out.up, HHE.out, HG.out, HBA.out⟩
          case measure => simp [intOf]; omega
        have h1I : (kk == 1) = false := by simpa using h1
        by_cases h3 : kk = 3
        · subst h3
          go_wp2_with fail
          go_roundw
          case rel => exact ⟨i + 1, _, G, by omega, by go_num, HSA.out.up, HHE.out, HG.out, HBA.out⟩
          case measure => simp [intOf]; omega
        have h3I : (kk == 3) = false := by simpa using h3
        by_cases h4 : kk = 4
        · subst h4
          go_wp2_with fail
          go_roundw
          case rel => exact ⟨i + 1, _, G, by omega, by go_num, HSA.out.up, HHE.out, HG.out, HBA.out⟩
          case measure => simp [intOf]; omega
        have h4I : (kk == 4) = false := by simpa using h4
        have hstp := HHE.out.step (o := ⟨kk, ch, vv, bt, sm, rt, .slice Ao od.length capo, od⟩) HOO.out.2.1 (by dsimp only; omega) (by dsimp only; omega) (fun _ => ⟨h1, h3, h4⟩)
        have HSTP := Lib.hid hstp
        clear hstp
        go_wp2_with fail
        refine (sdoes_any p (i + 2) ⟨kk, ch, vv, bt, sm, rt, .slice Ao od.length capo, od⟩ s G _ ⟨HOO.out.1, HOO.out.2.1, HOO.out.2.2.below HBA.out (Nat.le_refl _)⟩ (HOO.out.2.2.offB HG.out) (by omega) HHE.out.ok HSA.out).mono ?_
        rintro e w3 ⟨v3, G3, rfl, ho3, _, hs3, hst3⟩
        have hbase3 := hst3.base HBA.out.size HG.out
        obtain ⟨s3, hs3e⟩ : ∃ x, (doS s ⟨kk, ch, vv, bt, sm, rt, .slice Ao od.length capo, od⟩).2 = x := ⟨_, rfl⟩
        have hstp := HSTP.out
        rw [hs3e] at hs3 hstp
        have HS3 := Lib.hid hs3
        have HHE3 := Lib.hid hstp
        have HB3 := Lib.hid (HBA.out.trans hbase3.1)
        have HG3 := Lib.hid hbase3.2
        clear ho3 hs3 hst3 hbase3 hstp hs3e c0 c1 c2 c3 c4 c5 c6 q0 q1 q2 q3 q4 q5 q6
        go_wp2_with fail
        refine (sread_any p (i + 2 + 1) ch s3 G3 w3 HC.out HHE3.out.ok HS3.out).mono ?_
        rintro e w4 ⟨v4, rfl, ho4, hb4⟩
        rw [HHE3.out.read] at ho4 ⊢
        dsimp only at ho4 ⊢
        obtain ⟨A4, cap4, e4⟩ := ho4.slice_
        subst e4
        have HB4 := Lib.hid (HB3.out.trans (hb4.mono HB3.out.size))
        have HS4 := Lib.hid (HS3.out.below_ hb4)
        have hcx := conv_str ho4.rd
        have hca := conv_str (HRd.out _ HB4.out)
        obtain ⟨ta, hta⟩ : ∃ x, strB d = x := ⟨_, rfl⟩
        rw [hta] at hcx hca
        obtain ⟨ln, hln⟩ : ∃ x, (s3.l.length : Int) = x := ⟨_, rfl⟩
        have HLN := Lib.hid hln
        have hlen : ln ≤ R := by
          have := HHE3.out.ok.len
          rw [HHE3.out.room] at this
          omega
        clear hta ho4 hb4 hln
        by_cases hlr : ln > room
        · have hr16 : ¬ (room ≤ 16) := fun h => by have := HRR.out h; omega
          go_wp2_with (first
            | (go_at_call 26; refine (slen_any p (i + 2 + 1) s3 G3 w4 HS4.out).mono ?_; rintro e w5 ⟨rfl, rfl⟩; rw [HLN.out]))
          go_roundw
          case rel => exact ⟨i + 1, _, G3, by omega, by go_num, HS4.out, HHE3.out, HG3.out, HB4.out⟩
          case measure => simp [intOf]; omega
        · go_wp2_with (first
            | (go_at_call 26; refine (slen_any p (i + 2 + 1) s3 G3 w4 HS4.out).mono ?_; rintro e w5 ⟨rfl, rfl⟩; rw [HLN.out]))
          go_roundw
          case rel => exact ⟨i + 1, _, G3, by omega, by go_num, HS4.out, HHE3.out, HG3.out, HB4.out⟩
          case measure => simp [intOf]; omega
      · have hccI : (ch == c) = false := by simpa using hcc
        have hstp := HHE.out.step (o := ⟨kk, ch, vv, bt, sm, rt, .slice Ao od.length capo, od⟩) HOO.out.2.1 (by dsimp only; omega) (by dsimp only; omega) (fun e => absurd e hcc)
        have HSTP := Lib.hid hstp
        clear hstp
        go_wp2_with fail
        refine (sdoes_any p (i + 2) ⟨kk, ch, vv, bt, sm, rt, .slice Ao od.length capo, od⟩ s G _ ⟨HOO.out.1, HOO.out.2.1, HOO.out.2.2.below HBA.out (Nat.le_refl _)⟩ (HOO.out.2.2.offB HG.out) (by omega) HHE.out.ok HSA.out).mono ?_
        rintro e w3 ⟨v3, G3, rfl, ho3, _, hs3, hst3⟩
        have hbase3 := hst3.base HBA.out.size HG.out
        obtain ⟨s3, hs3e⟩ : ∃ x, (doS s ⟨kk, ch, vv, bt, sm, rt, .slice Ao od.length capo, od⟩).2 = x := ⟨_, rfl⟩
        have hstp := HSTP.out
        rw [hs3e] at hs3 hstp
        have HS3 := Lib.hid hs3
        have HHE3 := Lib.hid hstp
        have HB3 := Lib.hid (HBA.out.trans hbase3.1)
        have HG3 := Lib.hid hbase3.2
        clear ho3 hs3 hst3 hbase3 hstp hs3e c0 c1 c2 c3 c4 c5 c6 q0 q1 q2 q3 q4 q5 q6
        go_wp2_with fail
        refine (sread_any p (i + 2 + 1) c s3 G3 w3 HC.out HHE3.out.ok HS3.out).mono ?_
        rintro e w4 ⟨v4, rfl, ho4, hb4⟩
        rw [HHE3.out.read] at ho4 ⊢
        dsimp only at ho4 ⊢
        obtain ⟨A4, cap4, e4⟩ := ho4.slice_
        subst e4
        have HB4 := Lib.hid (HB3.out.trans (hb4.mono HB3.out.size))
        have HS4 := Lib.hid (HS3.out.below_ hb4)
        have hcx := conv_str ho4.rd
        have hca := conv_str (HRd.out _ HB4.out)
        obtain ⟨ta, hta⟩ : ∃ x, strB d = x := ⟨_, rfl⟩
        rw [hta] at hcx hca
        obtain ⟨ln, hln⟩ : ∃ x, (s3.l.length : Int) = x := ⟨_, rfl⟩
        have HLN := Lib.hid hln
        have hlen : ln ≤ R := by
          have := HHE3.out.ok.len
          rw [HHE3.out.room] at this
          omega
        clear hta ho4 hb4 hln
        by_cases hlr : ln > room
        · have hr16 : ¬ (room ≤ 16) := fun h => by have := HRR.out h; omega
          go_wp2_with (first
            | (go_at_call 26; refine (slen_any p (i + 2 + 1) s3 G3 w4 HS4.out).mono ?_; rintro e w5 ⟨rfl, rfl⟩; rw [HLN.out]))
          go_roundw
          case rel => exact ⟨i + 1, _, G3, by omega, by go_num, HS4.out, HHE3.out, HG3.out, HB4.out⟩
          case measure => simp [intOf]; omega
        · go_wp2_with (first
            | (go_at_call 26; refine (slen_any p (i + 2 + 1) s3 G3 w4 HS4.out).mono ?_; rintro e w5 ⟨rfl, rfl⟩; rw [HLN.out]))
          go_roundw
          case rel => exact ⟨i + 1, _, G3, by omega, by go_num, HS4.out, HHE3.out, HG3.out, HB4.out⟩
          case measure => simp [intOf]; omega
    · have hltI : ¬ ((i : Int) < (n : Int)) := by omega
      go_wp2_with fail
      go_ret
      exact ⟨rfl, HB.out⟩

end Go.Proofs.Ytncgpojjibojlaa
