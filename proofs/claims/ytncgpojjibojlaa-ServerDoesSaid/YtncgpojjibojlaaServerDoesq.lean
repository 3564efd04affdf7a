/- ServerDoes: the walk. -/
import Derived.Test.YtncgpojjibojlaaGgq
import Derived.Test.YtncgpojjibojlaaSimLq
import Derived.Test.YtncgpojjibojlaaServerRefusesq
namespace Go.Proofs.Ytncgpojjibojlaa
open Go Go.RowKit Go.Sort

theorem SrvAt.fr {w w' : World} {G S : Nat → Prop} {p k : Nat} {s : Sv} (h : SrvAt w G p k s) (hf : Fr S w w') (hn : ∀ i, G i → ¬ S i) : SrvAt w' G p k s := by
  obtain ⟨lv, mb, F, h⟩ := h
  exact ⟨lv, mb, F, ⟨h.box.fr hf (hn _ h.gp), h.own.fr hf (fun g hg => hn g (h.gl g hg)), h.map.fr hf (hn _ h.gm), fun c t hc => (h.row c t hc).fr hf (fun g hg => hn g (h.gf c t hc g hg)), h.sep, h.gp, h.gm, h.gl, h.gf, fun i hi => Nat.lt_of_lt_of_le (h.lt i hi) hf.size⟩⟩
theorem SrvAt.lt_ {w : World} {G : Nat → Prop} {p k : Nat} {s : Sv} (h : SrvAt w G p k s) : ∀ i, G i → i < w.heap.size := by
  obtain ⟨lv, mb, F, h⟩ := h
  exact h.lt
theorem RsAt.lt_ {w : World} {H : Nat → Prop} {q k : Nat} {r : Sv} (h : RsAt w H q k r) : ∀ i, H i → i < w.heap.size := by
  obtain ⟨lv, pv, ps, h⟩ := h
  exact h.lt
theorem flat_in_at {l : List Int} {j : Nat} (h : j < l.length) : (l.flatMap inC)[j]? = some (.int .i64 (at_ l j)) := by
  have hg := at_get h
  have f0 := flat_get inC 1 (fun _ => rfl) l j 0 (by omega)
  rw [hg] at f0
  rw [Nat.mul_one, Nat.add_zero] at f0
  rw [f0]
  rfl
/-- The box's middle cell: a slice of so many. -/
theorem RsAt.mid {w : World} {H : Nat → Prop} {q k : Nat} {r : Sv} (h : RsAt w H q k r) : ∃ A cap, w.cell? ⟨q, 1, none⟩ = some (.slice A r.l.length cap) := by
  obtain ⟨lv, pv, ps, h⟩ := h
  obtain ⟨A, cap, rfl⟩ := h.own.slice_
  exact ⟨A, cap, h.box.three.2.1⟩
/-- Ahead of the next op: so many are done. -/
def StD (W : World) (p q n : Nat) (s11 : Value) (wr : World) : Prop := ∃ (i : Nat) (s r : Sv) (G H : Nat → Prop), i ≤ n ∧ s11 = .int .i64 i ∧ SrvAt wr G p i s ∧ RsAt wr H q i r ∧ SimS s r ∧ (∀ j, G j → ¬ H j) ∧ (∀ j, G j → W.heap.size ≤ j) ∧ (∀ j, H j → W.heap.size ≤ j) ∧ Below W.heap.size W wr

set_option maxHeartbeats 16000000 in
set_option maxRecDepth 1000000 in
theorem serverDoes_walk (room : Int) (ov : Value) (ops : List Op11) (c : Int) (W : World) (hr : wfI room) (hO : (∀ o ∈ ops, okO W o) ∧ Rd W 7 ov ops.length (ops.flatMap o1C)) (hc : wfI c) :
    Calls Try.prog 3 #[.int .i64 room, ov, .int .i64 c] W fun e w' => e = .returned (.bool true) ∧ Below W.heap.size W w' := by
  have HC := Lib.hid hc
  clear hr hc
  obtain ⟨hop, hRo⟩ := hO
  obtain ⟨A, cap, hvo, _, hnc⟩ := hRo.shape
  subst hvo
  obtain ⟨n, hn⟩ : ∃ n, ops.length = n := ⟨_, rfl⟩
  have HN := Lib.hid hn
  rw [hn] at hRo hnc ⊢
  have HR := Lib.hid hRo
  have HOP := Lib.hid hop
  clear hRo hn hop
  go_enter Try.func3, Try.ntmps3
  go_wp2_with fail
  refine (awake11 W).mono ?_
  rintro e w1 ⟨rfl, hb1⟩
  have HB1 := Lib.hid hb1
  clear hb1
  go_wp2_with fail
  refine (few_any _ ops w1 (fun o ho => ⟨(HOP.out o ho).1, (HOP.out o ho).2.1, (HOP.out o ho).2.2.below HB1.out (Nat.le_refl _)⟩) (by rw [HN.out]; exact HR.out.below HB1.out (Nat.le_refl _))).mono ?_
  rintro e w1b ⟨rfl, rfl⟩
  obtain ⟨fb, hfb⟩ : ∃ b, fewO ops = b := ⟨_, rfl⟩
  have HFB := Lib.hid hfb
  rw [hfb]
  clear hfb
  go_wp2_with fail
  refine (snew_any room w1b).mono ?_
  rintro e w2 ⟨p, G2, rfl, hs2, hg2, hb2⟩
  have HS2 := Lib.hid hs2
  have HB2 := Lib.hid (below_then HB1.out hb2)
  have HG2 : Hid (∀ i, G2 i → W.heap.size ≤ i) := fun i hi => Nat.le_trans HB1.out.size (hg2 i hi)
  clear hs2 hg2 hb2
  go_wp2_with fail
  refine (rnew_any room w2).mono ?_
  rintro e w2b ⟨q, H2, rfl, hr2, hh2, hb2b⟩
  have HS2b := Lib.hid (HS2.out.below_ hb2b)
  have HR2b := Lib.hid hr2
  have HB2b := Lib.hid (below_then HB2.out hb2b)
  have HH2 : Hid (∀ i, H2 i → W.heap.size ≤ i) := fun i hi => Nat.le_trans HB2.out.size (hh2 i hi)
  have HDJ : Hid (∀ i, G2 i → ¬ H2 i) := fun i hi hj => by have h1 := HS2.out.lt_ i hi; have h2 := hh2 i hj; omega
  clear hr2 hh2 hb2b
  cases fb with
  | false =>
    go_wp2_with fail
    go_ret
    exact ⟨rfl, HB2b.out⟩
  | true =>
  have hn60 : n ≤ 60 := by have := fewO_le HFB.out; have := HN.out; omega
  go_wp2_with fail
  go_loopw [11] (StD W p q n) (fun s11 _ => n - (intOf s11).toNat)
  case atStart => exact ⟨0, _, _, G2, H2, Nat.zero_le _, rfl, HS2b.out, HR2b.out, SimS.new room, HDJ.out, HG2.out, HH2.out, HB2b.out⟩
  case round =>
    clear HB1 HS2 HB2 HG2 HS2b HR2b HB2b HH2 HDJ
    obtain ⟨i, s, r, G, H, hi, rfl, hs, hrr, hsim, hdj, hg, hh, hb⟩ := hrel
    have HS := Lib.hid hs
    have HRS := Lib.hid hrr
    have HSIM := Lib.hid hsim
    have HDJ := Lib.hid hdj
    have HG := Lib.hid hg
    have HH := Lib.hid hh
    have HB := Lib.hid hb
    clear hs hrr hsim hdj hg hh hb
    by_cases hlt : i < n
    · have hltI : (i : Int) < (n : Int) := by omega
      have hR1 := HR.out.below HB.out (Nat.le_refl _)
      obtain ⟨b, off, hA, hbl⟩ := hR1.addr (by omega)
      subst hA
      obtain ⟨c0, c1, c2, c3, c4, c5, c6⟩ := rd_o1 hR1 i (by rw [HN.out]; exact hlt)
      have hoo := HOP.out _ (at_mem (l := ops) (i := i) (by rw [HN.out]; exact hlt))
      obtain ⟨⟨kk, ch, vv, bt, sm, rt, ov, od⟩, ho⟩ : ∃ o, at_ ops i = o := ⟨_, rfl⟩
      have HAT := Lib.hid ho
      rw [ho] at c0 c1 c2 c3 c4 c5 c6 hoo
      have HOO := Lib.hid hoo
      dsimp only at c0 c1 c2 c3 c4 c5 c6
      clear ho hoo hR1 hbl
      have hst := HSIM.out.step (o := ⟨kk, ch, vv, bt, sm, rt, ov, od⟩) HOO.out.2.1
      have HST := Lib.hid hst
      have HROW := Lib.hid (HR.out)
      clear hst
      go_wp2_with fail
      refine (sdoes_any p i ⟨kk, ch, vv, bt, sm, rt, ov, od⟩ s G wr ⟨HOO.out.1, HOO.out.2.1, HOO.out.2.2.below HB.out (Nat.le_refl _)⟩ (HOO.out.2.2.offB HG.out) (by omega) HSIM.out.ok HS.out).mono ?_
      rintro e w3 ⟨v3, G3, rfl, ho3, hx3, hs3, hst3⟩
      obtain ⟨⟨e3, s3⟩, hd3⟩ : ∃ x, doS s ⟨kk, ch, vv, bt, sm, rt, ov, od⟩ = x := ⟨_, rfl⟩
      obtain ⟨gl, hgl⟩ : ∃ x, goS s ⟨kk, ch, vv, bt, sm, rt, ov, od⟩ = x := ⟨_, rfl⟩
      obtain ⟨⟨e4, r4⟩, hd4⟩ : ∃ x, didQ r ⟨kk, ch, vv, bt, sm, rt, ov, od⟩ = x := ⟨_, rfl⟩
      have hstp := HST.out
      rw [hd3, hd4, hgl] at hstp
      obtain ⟨he34, hgone, hsim3⟩ := hstp
      dsimp only at he34 hsim3
      subst he34
      have HD4 := Lib.hid hd4
      have HGONE := Lib.hid hgone
      have HSIM3 := Lib.hid hsim3
      rw [hd3] at hs3 ⊢
      rw [hgl] at ho3
      dsimp only at hs3 ⊢
      obtain ⟨m, hm⟩ : ∃ m, gl.length = m := ⟨_, rfl⟩
      have HM := Lib.hid hm
      obtain ⟨A3, cap3, ev3⟩ := ho3.slice_
      subst ev3
      have hbase3 := hst3.base HB.out.size HG.out
      have HB3 := Lib.hid (HB.out.trans hbase3.1)
      have HG3 := Lib.hid hbase3.2
      have HS3 := Lib.hid hs3
      have HR3 := Lib.hid (HRS.out.fr hst3.1 (fun j hj hG => HDJ.out j hG hj))
      have HDJ3 : Hid (∀ j, G3 j → ¬ H j) := fun j hj hh => (hst3.2 j hj).elim (fun h => HDJ.out j h hh) (fun h => by have := HRS.out.lt_ j hh; omega)
      have HX3 : Hid (Own w3 wr.heap.size 3 1 (.slice A3 m cap3) m (gl.flatMap inC)) := by have := ho3; rw [hm] at this; exact this
      have HXH : Hid (∀ g, blk (.slice A3 m cap3) = some g → ¬ H g) := fun g hg hh => by
        have h1 := (HX3.out.blk_lt hg).1
        have h2 := HRS.out.lt_ g hh
        omega
      rw [hm]
      clear ho3 hx3 hs3 hst3 hbase3 hd3 hd4 hgl hgone hsim3 hm c0 c1 c2 c3 c4 c5 c6 HST
      have hR3 := HROW.out.below HB3.out (Nat.le_refl _)
      obtain ⟨c0, c1, c2, c3, c4, c5, c6⟩ := rd_o1 hR3 i (by rw [HN.out]; exact hlt)
      rw [HAT.out] at c0 c1 c2 c3 c4 c5 c6
      dsimp only at c0 c1 c2 c3 c4 c5 c6
      clear hR3
      go_wp2_with fail
      refine (sdid_any q i ⟨kk, ch, vv, bt, sm, rt, ov, od⟩ r H w3 ⟨HOO.out.1, HOO.out.2.1, HOO.out.2.2.below HB3.out (Nat.le_refl _)⟩ (HOO.out.2.2.offB HH.out) (by omega) (by rw [HSIM.out.l]; exact HSIM.out.ok.l16) HR3.out).mono ?_
      rintro e w4 ⟨v4, H4, rfl, ho4, hr4, hst4⟩
      rw [HD4.out] at hr4 ⊢
      rw [HGONE.out] at ho4
      dsimp only at hr4 ⊢
      obtain ⟨A4, cap4, ev4⟩ := ho4.slice_
      subst ev4
      have hbase4 := hst4.base HB3.out.size HH.out
      have HB4 := Lib.hid (HB3.out.trans hbase4.1)
      have HR4 := Lib.hid hr4
      have HH4 := Lib.hid hbase4.2
      have HS4 := Lib.hid (HS3.out.fr hst4.1 HDJ3.out)
      have HX4 := Lib.hid (HX3.out.fr hst4.1 HXH.out)
      have HY4 : Hid (Own w4 w3.heap.size 3 1 (.slice A4 m cap4) m (gl.flatMap inC)) := by have := ho4; rw [HM.out] at this; exact this
      have HDJ4 : Hid (∀ j, G3 j → ¬ H4 j) := fun j hj hh => (hst4.2 j hh).elim (fun h => HDJ3.out j hj h) (fun h => by have := HS3.out.lt_ j hj; omega)
      rw [HM.out]
      obtain ⟨_, _, _, hc63, hmc⟩ := HX3.out.rd.shape
      have hm63 : m ≤ 9223372036854775807 := by omega
      clear ho4 hr4 hst4 hbase4 hc63 hmc c0 c1 c2 c3 c4 c5 c6
      go_wp2_with fail
      go_loopw [16] (fun s16 wi => ∃ j : Nat, j ≤ m ∧ s16 = .int .i64 j ∧ Below w4.heap.size w4 wi) (fun s16 _ => m - (intOf s16).toNat)
      case atStart => exact ⟨0, Nat.zero_le _, rfl, Below.refl _ _⟩
      case round =>
        obtain ⟨j, hj, rfl, hbi⟩ := hrel
        have HBI := Lib.hid hbi
        clear hbi
        by_cases hjlt : j < m
        · have hjltI : (j : Int) < (m : Int) := by omega
          have hX := HX4.out.below HBI.out (Nat.le_refl _)
          have hY := HY4.out.below HBI.out (Nat.le_refl _)
          obtain ⟨bx, ox, cx, ex, hxc, _, _, _, _⟩ := hX.form (by omega)
          obtain ⟨by_, oy, cy, ey, hyc, _, _, _, _⟩ := hY.form (by omega)
          injection ex with ex1 ex2 ex3
          injection ey with ey1 ey2 ey3
          subst ex1 ex3 ey1 ey3
          have d0 := hX.cells j (.int .i64 (at_ gl j)) (flat_in_at (by rw [HM.out]; exact hjlt))
          have d1 := hY.cells j (.int .i64 (at_ gl j)) (flat_in_at (by rw [HM.out]; exact hjlt))
          obtain ⟨z, hz⟩ : ∃ z, at_ gl j = z := ⟨_, rfl⟩
          rw [hz] at d0 d1
          clear hX hY ex2 ey2 hz
          go_wp2_with fail
          go_quiet (fail)
          go_wp2_with fail
          go_roundw
          case rel => exact ⟨j + 1, by omega, by go_num, below_drewN HBI.out _⟩
          case measure => simp [intOf]; omega
        · have hjltI : ¬ ((j : Int) < (m : Int)) := by omega
          have HBJ : Hid (Below W.heap.size W wr) := HB4.out.trans (HBI.out.mono HB4.out.size)
          have HSJ := Lib.hid (HS4.out.below_ HBI.out)
          have HRJ := Lib.hid (HR4.out.below_ HBI.out)
          clear HBI HX4 HY4 HX3
          go_wp2_with fail
          refine (sread_any p (i + 1) c s3 G3 wr HC.out HSIM3.out.ok HSJ.out).mono ?_
          rintro e w5 ⟨v5, rfl, ho5, hb5⟩
          have hrd := HSIM3.out.read c
          obtain ⟨⟨rd, rv, re⟩, hre⟩ : ∃ x, readS s3 c = x := ⟨_, rfl⟩
          rw [hre] at ho5 hrd ⊢
          have HRD := Lib.hid hrd
          dsimp only at ho5 ⊢
          obtain ⟨A5, cap5, ev5⟩ := ho5.slice_
          subst ev5
          have HB5 := Lib.hid (HBJ.out.trans (hb5.mono HBJ.out.size))
          have HS5 := Lib.hid (HSJ.out.below_ hb5)
          have HR5 := Lib.hid (HRJ.out.below_ hb5)
          have HO5 := Lib.hid ho5
          clear hre hrd ho5 hb5
          go_wp2_with fail
          refine (rread_any q (i + 1) c r4 H4 w5 (by omega) HR5.out).mono ?_
          rintro e w6 ⟨v6, rfl, ho6, hb6⟩
          rw [HRD.out] at ho6 ⊢
          dsimp only at ho6 ⊢
          obtain ⟨A6, cap6, ev6⟩ := ho6.slice_
          subst ev6
          have HB6 := Lib.hid (HB5.out.trans (hb6.mono HB5.out.size))
          have HS6 := Lib.hid (HS5.out.below_ hb6)
          have HR6 := Lib.hid (HR5.out.below_ hb6)
          have HO56 := Lib.hid (HO5.out.below hb6 (Nat.le_refl _))
          have HO6 := Lib.hid ho6
          clear ho6 hb6 HO5
          go_wp2_with fail
          refine (sreport_any p (i + 1) s3 G3 w6 (by have := HSIM3.out.ok.l16; omega) HS6.out).mono ?_
          rintro e w7 ⟨v7, rfl, ho7, hb7⟩
          obtain ⟨nr, hnr⟩ : ∃ x, (rstR s3.l).length = x := ⟨_, rfl⟩
          have HNR := Lib.hid hnr
          obtain ⟨A7, cap7, ev7⟩ := ho7.slice_
          subst ev7
          rw [hnr]
          have HB7 := Lib.hid (HB6.out.trans (hb7.mono HB6.out.size))
          have HS7 := Lib.hid (HS6.out.below_ hb7)
          have HR7 := Lib.hid (HR6.out.below_ hb7)
          have HO57 := Lib.hid (HO56.out.below hb7 (Nat.le_refl _))
          have HO67 := Lib.hid (HO6.out.below hb7 (Nat.le_refl _))
          have HO7 := Lib.hid ho7
          clear ho7 hb7 hnr HO56 HO6
          go_wp2_with fail
          refine (rreport_any q (i + 1) r4 H4 w7 (by rw [HSIM3.out.l]; have := HSIM3.out.ok.l16; omega) HR7.out).mono ?_
          rintro e w8 ⟨v8, rfl, ho8, hb8⟩
          rw [HSIM3.out.l] at ho8
          obtain ⟨A8, cap8, ev8⟩ := ho8.slice_
          subst ev8
          rw [HNR.out]
          have HB8 := Lib.hid (HB7.out.trans (hb8.mono HB7.out.size))
          have HS8 := Lib.hid (HS7.out.below_ hb8)
          have HR8 := Lib.hid (HR7.out.below_ hb8)
          have HO58 := Lib.hid (HO57.out.below hb8 (Nat.le_refl _))
          have HO68 := Lib.hid (HO67.out.below hb8 (Nat.le_refl _))
          have HO78 := Lib.hid (HO7.out.below hb8 (Nat.le_refl _))
          have HO8 := Lib.hid ho8
          clear ho8 hb8 HO57 HO67 HO7
          go_wp2_with fail
          refine (same_re _ _ (rstR s3.l) (rstR s3.l) w8 (rdN HNR.out HO78.out.rd) (rdN HNR.out HO8.out.rd)).mono ?_
          rintro e w9 ⟨rfl, hb9⟩
          rw [decide_eq_true rfl]
          have hb9d : Below w8.heap.size w8 w9.drew := hb9.drew
          have HB9 := Lib.hid (HB8.out.trans (hb9d.mono HB8.out.size))
          have HS9 := Lib.hid (HS8.out.below_ hb9d)
          have HR9 := Lib.hid (HR8.out.below_ hb9d)
          have hcx := conv_str (HO58.out.below hb9d (Nat.le_refl _)).rd
          have hcy := conv_str (HO68.out.below hb9d (Nat.le_refl _)).rd
          obtain ⟨ta, hta⟩ : ∃ x, strB rd = x := ⟨_, rfl⟩
          rw [hta] at hcx hcy
          obtain ⟨Am, capm, m2d⟩ := HR9.out.mid
          obtain ⟨ln, hln⟩ : ∃ x, s3.l.length = x := ⟨_, rfl⟩
          have HLN := Lib.hid hln
          rw [HSIM3.out.l, hln] at m2d
          clear hb9 hb9d hta hln HO58 HO68 HO78 HO8
          go_wp2_with fail
          have m3d := And.intro m2d (And.intro hcx hcy)
          go_region_held3 (fun w' => w'.cell? ⟨q, 1, none⟩ = some (.slice Am ln capm) ∧ (convert 34 9 (.slice A5 rd.length cap5)).run Try.prog w' = .ok (.string ta) w' ∧ (convert 34 9 (.slice A6 rd.length cap6)).run Try.prog w' = .ok (.string ta) w') (first | exact m3d | go_keep)
            (first
              | (go_at_call 26; refine (slen_any p (i + 1) s3 G3 _ HS9.out).mono ?_; rintro e w10 ⟨rfl, rfl⟩; rw [HLN.out]))
          go_wp2_with fail
          go_roundw
          case rel => exact ⟨i + 1, s3, r4, G3, H4, by omega, by go_num, HS9.out, HR9.out, HSIM3.out, HDJ4.out, HG3.out, HH4.out, HB9.out⟩
          case measure => simp [intOf]; omega
    · have hltI : ¬ ((i : Int) < (n : Int)) := by omega
      go_wp2_with fail
      go_ret
      exact ⟨rfl, HB.out⟩

end Go.Proofs.Ytncgpojjibojlaa
