/- sutureref10.Commit, Begin: their contracts. -/
import Derived.Test.YtncgpojjibojlaaGoq
import Derived.Test.YtncgpojjibojlaaReO3q
import Derived.Test.YtncgpojjibojlaaReplicaRemovesq
import Derived.Deep.RegionHeld3
namespace Go.Proofs.Ytncgpojjibojlaa
open Go Go.RowKit Go.Sort

set_option maxHeartbeats 4000000 in
set_option maxRecDepth 100000 in
theorem rcommit_any (v : Value) (l : List Re) (c u : Int) (w : World) (hl : l.length ≤ 900) (hR : Rd w 5 v l.length (l.flatMap reC)) :
    Calls Try.prog 81 #[v, .int .i64 c, .int .i64 u] w (FreshT (cmtR l c u) w) := by
  have HR := Lib.hid hR
  have hrm : cmtR l c u = match findR (fairR l) c true with
    | none => (5, [])
    | some t => if t.2.1 = u then (0, putR (dropR (fairR l) (2 * c + 1)) (t.1, t.2.1, t.2.2.1, false, t.2.2.2.2)) else (5, []) := rfl
  have HRM := Lib.hid hrm
  clear hR hrm
  have hfl := fairR_len l
  go_enter Try.func81, Try.ntmps81
  go_wp2_with fail
  refine (rfair_any v l w (by omega) HR.out).mono ?_
  rintro e w1 ⟨v1, rfl, ho1, hb1⟩
  have HO1 := Lib.hid ho1.rd
  have HB1 := Lib.hid hb1
  have hs1 := hb1.size
  obtain ⟨A1, cap1, hv1⟩ := ho1.slice_
  subst hv1
  clear ho1 hb1
  have hris := fairR_ris l
  have HRS := Lib.hid hris
  obtain ⟨fl, hfl2⟩ : ∃ f, fairR l = f := ⟨_, rfl⟩
  rw [hfl2] at hfl HO1 HRS HRM ⊢
  obtain ⟨n, hn⟩ : ∃ n, fl.length = n := ⟨_, rfl⟩
  have HN := Lib.hid hn
  rw [hn] at hfl ⊢
  have HO1n := Lib.hid (rdN hn HO1.out)
  clear hn hfl2 hris
  go_wp2_with fail
  refine (rat_any _ fl c true w1 HRS.out HO1n.out).mono ?_
  rintro e w2 ⟨rfl, h2⟩
  rcases h2 with ⟨i, rfl, hi, hf, hx1, hx2, hcut, hisat⟩ | ⟨rfl, hf⟩
  · have HDC := Lib.hid (drop_at_cut hcut HRS.out hisat)
    have HI := Lib.hid hi
    have hR2 := HO1n.out
    rw [HN.out] at hR2 hi
    obtain ⟨g, off, ea, hgl⟩ := hR2.addr (by omega)
    subst ea
    have hiI : (i : Int) < (n : Int) := by omega
    have hi0 : ¬ ((i : Int) < 0) := by omega
    obtain ⟨c0, c1, c2, c3, c4⟩ := rd_re hR2 i (by rw [HN.out]; exact hi)
    obtain ⟨x, hx⟩ : ∃ x, at_ fl i = x := ⟨_, rfl⟩
    rw [hx] at c0 c1 c2 c3 c4 hx1 hx2 hf
    obtain ⟨x0, x1, x2, x3, x4⟩ := x
    simp only at c0 c1 c2 c3 c4 hx1 hx2
    subst hx1 hx2
    by_cases hv : x1 = u
    · subst hv
      have hrf : cmtR l x0 x1 = (0, putR (dropR fl (2 * x0 + 1)) (x0, x1, x2, false, x4)) := by rw [HRM.out, hf]; simp
      have HRF := Lib.hid hrf
      have hne : (x1 != x1) = false := by simp
      clear hrf hf hx hcut hisat HRM hR2
      have hal := below_one w1 (.cells #[.int .i64 x0, .int .i64 x1, .int .u32 x2, .bool false, .bool x4] 52)
      have hbx := Bx.new w1 52 [.int .i64 x0, .int .i64 x1, .int .u32 x2, .bool false, .bool x4]
      change Bx (w1.alloc (.cells #[.int .i64 x0, .int .i64 x1, .int .u32 x2, .bool false, .bool x4] 52)) _ _ _ at hbx
      go_wp2_with fail
      generalize (w1.alloc (.cells #[.int .i64 x0, .int .i64 x1, .int .u32 x2, .bool false, .bool x4] 52)) = w3 at *
      have HO3 := Lib.hid (HO1n.out.below hal (Nat.le_refl _))
      have HB3 := Lib.hid (HB1.out.trans (hal.mono hs1))
      obtain ⟨bb, hbb⟩ : ∃ b, w1.heap.size = b := ⟨_, rfl⟩
      rw [hbb] at hbx ⊢
      have HX3 := Lib.hid hbx
      have hs3 : w.heap.size ≤ w3.heap.size := HB3.out.size
      have hbl : bb < w3.heap.size := hbx.lt
      obtain ⟨q0, q1, q2, q3, q4⟩ := hbx.five
      have QF := fun (w' : World) (hb : Below w3.heap.size w3 w') => (HX3.out.below' hb).five
      have B30 : Below w3.heap.size w3 w3.drew := (Below.refl w3.heap.size w3).drew
      have CD := rdrop_any (.slice (some ⟨g, off, none⟩) n cap1) fl i w3.drew (by rw [HN.out]; omega) HI.out (HO3.out.below B30 (Nat.le_refl _))
      rw [HDC.out] at CD
      have hdl : (dropR fl (2 * x0 + flI true)).length ≤ n := by rw [← HN.out]; exact dropR_len_le _ _
      have hdr0 := dropR_ris HRS.out (2 * x0 + flI true)
      obtain ⟨dl, hdl2⟩ : ∃ d, dropR fl (2 * x0 + flI true) = d := ⟨_, rfl⟩
      rw [hdl2] at CD hdl hdr0
      have HDL := Lib.hid hdl2
      have HDR := Lib.hid hdr0
      have HCD := Lib.hid CD
      clear hal hbx hbb c0 c1 c2 c3 c4 hdl2 hdr0 CD HO3
      go_region_held3 (fun w' => w'.cell? ⟨bb, 0, none⟩ = some (.int .i64 x0) ∧ w'.cell? ⟨bb, 1, none⟩ = some (.int .i64 x1) ∧ w'.cell? ⟨bb, 2, none⟩ = some (.int .u32 x2) ∧ w'.cell? ⟨bb, 3, none⟩ = some (.bool false) ∧ w'.cell? ⟨bb, 4, none⟩ = some (.bool x4))
        (first | exact QF _ B35 | exact QF _ B34 | exact QF _ B30 | go_keep)
        (first
          | (go_at_call 100; refine HCD.out.mono ?_; rintro e w4 ⟨v4, rfl, ho4, hb4⟩; have B34 : Below w3.heap.size w3 w4 := B30.trans hb4; have HO4 := Lib.hid ho4.rd; obtain ⟨A4, cap4, e4⟩ := ho4.slice_; subst e4; clear ho4 hb4)
          | (go_at_call 99; refine (rput_any _ dl (x0, x1, x2, false, x4) _ (by omega) HDR.out HO4.out).mono ?_; rintro e w5 ⟨v5, rfl, ho5, hb5⟩; have hs34 : w3.heap.size ≤ _ := B34.size; have B35 : Below w3.heap.size w3 w5 := below_then B34 hb5; have HO5 := Lib.hid (ho5.mono (base' := w.heap.size) (by omega)); clear ho5 hb5))
      have HB5 := Lib.hid (HB3.out.trans (B35.mono hs3))
      clear QF B30 B34 B35 q0 q1 q2 q3 q4 HCD
      go_wp2_with fail
      refine bodyPost_ret (v := .tuple #[v5, .int .i64 0]) (by simp [results, Try.results81, go_sem]) rfl ?_
      rw [HRF.out, show dropR fl (2 * x0 + 1) = dl from HDL.out]
      exact ⟨_, rfl, HO5.out, HB5.out⟩
    · have hne : (x1 != u) = true := by simpa using hv
      have hrf : cmtR l x0 u = (5, []) := by rw [HRM.out, hf]; simp [hv]
      have HRF := Lib.hid hrf
      clear hrf hf hx hcut hisat HRM hR2 hv
      go_wp2_with fail
      refine bodyPost_ret (v := .tuple #[.slice none 0 0, .int .i64 5]) (by simp [results, Try.results81, go_sem]) rfl ?_
      rw [HRF.out]
      exact ⟨_, rfl, Own.nil_ _ _ _ _, HB1.out⟩
  · have hrf : cmtR l c u = (5, []) := by rw [HRM.out, hf]
    have HRF := Lib.hid hrf
    clear hf hrf HRM
    go_wp2_with fail
    refine bodyPost_ret (v := .tuple #[.slice none 0 0, .int .i64 5]) (by simp [results, Try.results81, go_sem]) rfl ?_
    rw [HRF.out]
    exact ⟨_, rfl, Own.nil_ _ _ _ _, HB1.out⟩

set_option maxHeartbeats 8000000 in
set_option maxRecDepth 100000 in
theorem rbegin_any (v : Value) (l : List Re) (x : Re) (room : Int) (w : World) (hl : l.length ≤ 900) (hR : Rd w 5 v l.length (l.flatMap reC)) :
    Calls Try.prog 80 #[v, .agg #[.int .i64 x.1, .int .i64 x.2.1, .int .u32 x.2.2.1, .bool x.2.2.2.1, .bool x.2.2.2.2], .int .i64 room] w (FreshT (bgnR l x room) w) := by
  have HR := Lib.hid hR
  have hrm : bgnR l x room = if namedB x.1 x.2.1 = false then (1, []) else if (findR (fairR l) x.1 false).any (fun h => decide (h.2.1 ≥ x.2.1)) then (9, []) else if (findR (fairR l) x.1 true).any (fun t => decide (t.2.1 ≥ x.2.1)) then (6, []) else if (findR (fairR l) x.1 true).isNone && decide ((fairR l).length ≥ room) then (7, []) else (0, putR (fairR l) (x.1, x.2.1, x.2.2.1, true, false)) := rfl
  obtain ⟨x0, x1, x2, x3, x4⟩ := x
  dsimp only at hrm ⊢
  have HRM := Lib.hid hrm
  clear hR hrm
  have hfl := fairR_len l
  have hal := below_one w (.cells #[.int .i64 x0, .int .i64 x1, .int .u32 x2, .bool x3, .bool x4] 52)
  have hbx := Bx.new w 52 [.int .i64 x0, .int .i64 x1, .int .u32 x2, .bool x3, .bool x4]
  change Bx (w.alloc (.cells #[.int .i64 x0, .int .i64 x1, .int .u32 x2, .bool x3, .bool x4] 52)) _ _ _ at hbx
  go_enter Try.func80, Try.ntmps80
  go_wp2_with fail
  generalize (w.alloc (.cells #[.int .i64 x0, .int .i64 x1, .int .u32 x2, .bool x3, .bool x4] 52)) = w0 at *
  obtain ⟨bb, hbb⟩ : ∃ b, w.heap.size = b := ⟨_, rfl⟩
  have HBB := Lib.hid hbb
  refine (rfair_any v l w0 (by omega) (HR.out.below hal (by omega))).mono ?_
  rintro e w1 ⟨v1, rfl, ho1, hb1⟩
  have HO1 := Lib.hid ho1.rd
  have HB1 := Lib.hid (below_then hal hb1)
  have HX1 := Lib.hid (hbx.below' hb1)
  obtain ⟨A1, cap1, hv1⟩ := ho1.slice_
  subst hv1
  rw [hbb] at HX1 ⊢
  clear ho1 hb1 hal hbx hbb
  have hris := fairR_ris l
  have HRS := Lib.hid hris
  obtain ⟨fl, hfl2⟩ : ∃ f, fairR l = f := ⟨_, rfl⟩
  rw [hfl2] at hfl HO1 HRS HRM ⊢
  obtain ⟨n, hn⟩ : ∃ n, fl.length = n := ⟨_, rfl⟩
  have HN := Lib.hid hn
  rw [hn] at hfl HRM ⊢
  have HO1n := Lib.hid (rdN hn HO1.out)
  clear hn hfl2 hris HO1
  obtain ⟨q0, q1, q2, q3, q4⟩ := HX1.out.five
  go_wp2_with fail
  refine (rnamed_any x0 x1 w1).mono ?_
  rintro e w2 ⟨rfl, rfl⟩
  obtain ⟨nb, hnb⟩ : ∃ r, namedB x0 x1 = r := ⟨_, rfl⟩
  rw [hnb] at HRM ⊢
  clear hnb
  cases nb with
  | false =>
    have hrf : bgnR l (x0, x1, x2, x3, x4) room = (1, []) := HRM.out.trans (if_pos rfl)
    have HRF := Lib.hid hrf
    clear hrf HRM
    go_wp2_with fail
    refine bodyPost_ret (v := .tuple #[.slice none 0 0, .int .i64 1]) (by simp [results, Try.results80, go_sem]) rfl ?_
    rw [HRF.out]
    exact ⟨_, rfl, Own.nil_ _ _ _ _, HB1.out⟩
  | true =>
    have hrm := HRM.out.trans (if_neg (by simp))
    have HRM2 := Lib.hid hrm
    clear hrm HRM
    go_wp2_with fail
    refine (rat_any _ fl x0 false w1 HRS.out HO1n.out).mono ?_
    rintro e w2 ⟨rfl, h2⟩
    have hd1 : (∃ (i : Nat) (h : Int), e = .returned (.int .i64 i) ∧ i < n ∧ (at_ fl i).2.1 = h ∧ (findR fl x0 false).any (fun h => decide (h.2.1 ≥ x1)) = decide (h ≥ x1)) ∨ (e = .returned (.int .i64 (-1)) ∧ (findR fl x0 false).any (fun h => decide (h.2.1 ≥ x1)) = false) := by
      rcases h2 with ⟨i, h1, h2, h3, _⟩ | ⟨h1, h3⟩
      · exact .inl ⟨i, _, h1, by rw [← HN.out]; exact h2, rfl, by rw [h3]; rfl⟩
      · exact .inr ⟨h1, by rw [h3]; rfl⟩
    clear h2
    rcases hd1 with ⟨i1, h1, rfl, hi1, hh1, ha1⟩ | ⟨rfl, ha1⟩
    · skip
      have hA := HO1n.out
      rw [HN.out] at hA
      obtain ⟨bg, og, ea, _⟩ := hA.addr (by omega)
      subst ea
      have HA := Lib.hid hA
      clear hA
      have hi10 : (i1 : Int) ≥ 0 := by omega
      have hi1I : (i1 : Int) < (n : Int) := by omega
      obtain ⟨_, c1, _, _, _⟩ := rd_re HA.out i1 (by rw [HN.out]; exact hi1)
      rw [hh1] at c1
      clear hh1
      by_cases g1 : h1 ≥ x1
      · go_wp2_with fail
        refine (rat_any _ fl x0 true w1 HRS.out HO1n.out).mono ?_
        rintro e w2 ⟨rfl, h2⟩
        have hd2 : (∃ (i : Nat) (h : Int), e = .returned (.int .i64 i) ∧ i < n ∧ (at_ fl i).2.1 = h ∧ (findR fl x0 true).any (fun h => decide (h.2.1 ≥ x1)) = decide (h ≥ x1) ∧ (findR fl x0 true).isNone = false) ∨ (e = .returned (.int .i64 (-1)) ∧ (findR fl x0 true).any (fun h => decide (h.2.1 ≥ x1)) = false ∧ (findR fl x0 true).isNone = true) := by
          rcases h2 with ⟨i, h1, h2, h3, _⟩ | ⟨h1, h3⟩
          · exact .inl ⟨i, _, h1, by rw [← HN.out]; exact h2, rfl, by rw [h3]; rfl, by rw [h3]; rfl⟩
          · exact .inr ⟨h1, by rw [h3]; rfl, by rw [h3]; rfl⟩
        clear h2
        rcases hd2 with ⟨i2, h2, rfl, hi2, hh2, ha2, hb2⟩ | ⟨rfl, ha2, hb2⟩
        · skip
          have hrf : bgnR l (x0, x1, x2, x3, x4) room = (9, []) := by rw [HRM2.out]; simp [ha1, g1]
          have HRF := Lib.hid hrf
          clear hrf HRM2 ha1 ha2 hb2
          go_wp2_with fail
          go_quiet (fail)
          go_wp2_with fail
          refine bodyPost_ret (v := .tuple #[.slice none 0 0, .int .i64 9]) (by simp [results, Try.results80, go_sem]) rfl ?_
          rw [HRF.out]
          exact ⟨_, rfl, Own.nil_ _ _ _ _, by first | exact below_drewN HB1.out _ | exact below_drewN (below_drewN HB1.out _) _⟩
        · skip
          have hrf : bgnR l (x0, x1, x2, x3, x4) room = (9, []) := by rw [HRM2.out]; simp [ha1, g1]
          have HRF := Lib.hid hrf
          clear hrf HRM2 ha1 ha2 hb2
          go_wp2_with fail
          go_quiet (fail)
          go_wp2_with fail
          refine bodyPost_ret (v := .tuple #[.slice none 0 0, .int .i64 9]) (by simp [results, Try.results80, go_sem]) rfl ?_
          rw [HRF.out]
          exact ⟨_, rfl, Own.nil_ _ _ _ _, by first | exact below_drewN HB1.out _ | exact below_drewN (below_drewN HB1.out _) _⟩
      · go_wp2_with fail
        refine (rat_any _ fl x0 true w1 HRS.out HO1n.out).mono ?_
        rintro e w2 ⟨rfl, h2⟩
        have hd2 : (∃ (i : Nat) (h : Int), e = .returned (.int .i64 i) ∧ i < n ∧ (at_ fl i).2.1 = h ∧ (findR fl x0 true).any (fun h => decide (h.2.1 ≥ x1)) = decide (h ≥ x1) ∧ (findR fl x0 true).isNone = false) ∨ (e = .returned (.int .i64 (-1)) ∧ (findR fl x0 true).any (fun h => decide (h.2.1 ≥ x1)) = false ∧ (findR fl x0 true).isNone = true) := by
          rcases h2 with ⟨i, h1, h2, h3, _⟩ | ⟨h1, h3⟩
          · exact .inl ⟨i, _, h1, by rw [← HN.out]; exact h2, rfl, by rw [h3]; rfl, by rw [h3]; rfl⟩
          · exact .inr ⟨h1, by rw [h3]; rfl, by rw [h3]; rfl⟩
        clear h2
        rcases hd2 with ⟨i2, h2, rfl, hi2, hh2, ha2, hb2⟩ | ⟨rfl, ha2, hb2⟩
        · skip
          have hi20 : (i2 : Int) ≥ 0 := by omega
          have hi2I : (i2 : Int) < (n : Int) := by omega
          obtain ⟨_, c2, _, _, _⟩ := rd_re HA.out i2 (by rw [HN.out]; exact hi2)
          rw [hh2] at c2
          clear hh2
          by_cases g2 : h2 ≥ x1
          · skip
            have hrf : bgnR l (x0, x1, x2, x3, x4) room = (6, []) := by rw [HRM2.out]; simp [ha1, g1, ha2, g2]
            have HRF := Lib.hid hrf
            clear hrf HRM2 ha1 ha2 hb2
            go_wp2_with fail
            go_quiet (fail)
            go_wp2_with fail
            go_quiet (fail)
            go_wp2_with fail
            refine bodyPost_ret (v := .tuple #[.slice none 0 0, .int .i64 6]) (by simp [results, Try.results80, go_sem]) rfl ?_
            rw [HRF.out]
            exact ⟨_, rfl, Own.nil_ _ _ _ _, by first | exact below_drewN HB1.out _ | exact below_drewN (below_drewN HB1.out _) _⟩
          · skip
            have hrf : bgnR l (x0, x1, x2, x3, x4) room = (0, putR fl (x0, x1, x2, true, false)) := by rw [HRM2.out]; simp [ha1, g1, ha2, hb2, g2]
            have HRF := Lib.hid hrf
            clear hrf HRM2 ha1 ha2 hb2
            go_wp2_with fail
            go_quiet (fail)
            go_wp2_with fail
            go_quiet (fail)
            go_wp2_with fail
            refine (rput_any _ fl (x0, x1, x2, true, false) _ (by have := HN.out; omega) HRS.out (HO1n.out.below (by first | exact below_drewN (Below.refl _ _) _ | exact below_drewN (below_drewN (Below.refl _ _) _) _) (Nat.le_refl _))).mono ?_
            rintro e w5 ⟨v5, rfl, ho5, hb5⟩
            have HO5 := Lib.hid (ho5.mono (base' := w.heap.size) HB1.out.size)
            have HB5 := Lib.hid (below_then (by first | exact below_drewN HB1.out _ | exact below_drewN (below_drewN HB1.out _) _) hb5)
            clear ho5 hb5
            go_wp2_with fail
            refine bodyPost_ret (v := .tuple #[v5, .int .i64 0]) (by simp [results, Try.results80, go_sem]) rfl ?_
            rw [HRF.out]
            exact ⟨_, rfl, HO5.out, HB5.out⟩
        · skip
          by_cases gr : (n : Int) ≥ room
          · skip
            have hrf : bgnR l (x0, x1, x2, x3, x4) room = (7, []) := by rw [HRM2.out]; simp [ha1, g1, ha2, hb2, gr]
            have HRF := Lib.hid hrf
            clear hrf HRM2 ha1 ha2 hb2
            go_wp2_with fail
            go_quiet (fail)
            go_wp2_with fail
            go_quiet (fail)
            go_wp2_with fail
            refine bodyPost_ret (v := .tuple #[.slice none 0 0, .int .i64 7]) (by simp [results, Try.results80, go_sem]) rfl ?_
            rw [HRF.out]
            exact ⟨_, rfl, Own.nil_ _ _ _ _, by first | exact below_drewN HB1.out _ | exact below_drewN (below_drewN HB1.out _) _⟩
          · skip
            have hrf : bgnR l (x0, x1, x2, x3, x4) room = (0, putR fl (x0, x1, x2, true, false)) := by rw [HRM2.out]; simp [ha1, g1, ha2, hb2, gr]
            have HRF := Lib.hid hrf
            clear hrf HRM2 ha1 ha2 hb2
            go_wp2_with fail
            go_quiet (fail)
            go_wp2_with fail
            go_quiet (fail)
            go_wp2_with fail
            refine (rput_any _ fl (x0, x1, x2, true, false) _ (by have := HN.out; omega) HRS.out (HO1n.out.below (by first | exact below_drewN (Below.refl _ _) _ | exact below_drewN (below_drewN (Below.refl _ _) _) _) (Nat.le_refl _))).mono ?_
            rintro e w5 ⟨v5, rfl, ho5, hb5⟩
            have HO5 := Lib.hid (ho5.mono (base' := w.heap.size) HB1.out.size)
            have HB5 := Lib.hid (below_then (by first | exact below_drewN HB1.out _ | exact below_drewN (below_drewN HB1.out _) _) hb5)
            clear ho5 hb5
            go_wp2_with fail
            refine bodyPost_ret (v := .tuple #[v5, .int .i64 0]) (by simp [results, Try.results80, go_sem]) rfl ?_
            rw [HRF.out]
            exact ⟨_, rfl, HO5.out, HB5.out⟩
    · go_wp2_with fail
      refine (rat_any _ fl x0 true w1 HRS.out HO1n.out).mono ?_
      rintro e w2 ⟨rfl, h2⟩
      have hd2 : (∃ (i : Nat) (h : Int), e = .returned (.int .i64 i) ∧ i < n ∧ (at_ fl i).2.1 = h ∧ (findR fl x0 true).any (fun h => decide (h.2.1 ≥ x1)) = decide (h ≥ x1) ∧ (findR fl x0 true).isNone = false) ∨ (e = .returned (.int .i64 (-1)) ∧ (findR fl x0 true).any (fun h => decide (h.2.1 ≥ x1)) = false ∧ (findR fl x0 true).isNone = true) := by
        rcases h2 with ⟨i, h1, h2, h3, _⟩ | ⟨h1, h3⟩
        · exact .inl ⟨i, _, h1, by rw [← HN.out]; exact h2, rfl, by rw [h3]; rfl, by rw [h3]; rfl⟩
        · exact .inr ⟨h1, by rw [h3]; rfl, by rw [h3]; rfl⟩
      clear h2
      rcases hd2 with ⟨i2, h2, rfl, hi2, hh2, ha2, hb2⟩ | ⟨rfl, ha2, hb2⟩
      · skip
        have hA := HO1n.out
        rw [HN.out] at hA
        obtain ⟨bg, og, ea, _⟩ := hA.addr (by omega)
        subst ea
        have HA := Lib.hid hA
        clear hA
        have hi20 : (i2 : Int) ≥ 0 := by omega
        have hi2I : (i2 : Int) < (n : Int) := by omega
        obtain ⟨_, c2, _, _, _⟩ := rd_re HA.out i2 (by rw [HN.out]; exact hi2)
        rw [hh2] at c2
        clear hh2
        by_cases g2 : h2 ≥ x1
        · skip
          have hrf : bgnR l (x0, x1, x2, x3, x4) room = (6, []) := by rw [HRM2.out]; simp [ha1, ha2, g2]
          have HRF := Lib.hid hrf
          clear hrf HRM2 ha1 ha2 hb2
          go_wp2_with fail
          go_quiet (fail)
          go_wp2_with fail
          go_quiet (fail)
          go_wp2_with fail
          refine bodyPost_ret (v := .tuple #[.slice none 0 0, .int .i64 6]) (by simp [results, Try.results80, go_sem]) rfl ?_
          rw [HRF.out]
          exact ⟨_, rfl, Own.nil_ _ _ _ _, by first | exact below_drewN HB1.out _ | exact below_drewN (below_drewN HB1.out _) _⟩
        · skip
          have hrf : bgnR l (x0, x1, x2, x3, x4) room = (0, putR fl (x0, x1, x2, true, false)) := by rw [HRM2.out]; simp [ha1, ha2, hb2, g2]
          have HRF := Lib.hid hrf
          clear hrf HRM2 ha1 ha2 hb2
          go_wp2_with fail
          go_quiet (fail)
          go_wp2_with fail
          go_quiet (fail)
          go_wp2_with fail
          refine (rput_any _ fl (x0, x1, x2, true, false) _ (by have := HN.out; omega) HRS.out (HO1n.out.below (by first | exact below_drewN (Below.refl _ _) _ | exact below_drewN (below_drewN (Below.refl _ _) _) _) (Nat.le_refl _))).mono ?_
          rintro e w5 ⟨v5, rfl, ho5, hb5⟩
          have HO5 := Lib.hid (ho5.mono (base' := w.heap.size) HB1.out.size)
          have HB5 := Lib.hid (below_then (by first | exact below_drewN HB1.out _ | exact below_drewN (below_drewN HB1.out _) _) hb5)
          clear ho5 hb5
          go_wp2_with fail
          refine bodyPost_ret (v := .tuple #[v5, .int .i64 0]) (by simp [results, Try.results80, go_sem]) rfl ?_
          rw [HRF.out]
          exact ⟨_, rfl, HO5.out, HB5.out⟩
      · skip
        by_cases gr : (n : Int) ≥ room
        · skip
          have hrf : bgnR l (x0, x1, x2, x3, x4) room = (7, []) := by rw [HRM2.out]; simp [ha1, ha2, hb2, gr]
          have HRF := Lib.hid hrf
          clear hrf HRM2 ha1 ha2 hb2
          go_wp2_with fail
          go_quiet (fail)
          go_wp2_with fail
          go_quiet (fail)
          go_wp2_with fail
          refine bodyPost_ret (v := .tuple #[.slice none 0 0, .int .i64 7]) (by simp [results, Try.results80, go_sem]) rfl ?_
          rw [HRF.out]
          exact ⟨_, rfl, Own.nil_ _ _ _ _, by first | exact below_drewN HB1.out _ | exact below_drewN (below_drewN HB1.out _) _⟩
        · skip
          have hrf : bgnR l (x0, x1, x2, x3, x4) room = (0, putR fl (x0, x1, x2, true, false)) := by rw [HRM2.out]; simp [ha1, ha2, hb2, gr]
          have HRF := Lib.hid hrf
          clear hrf HRM2 ha1 ha2 hb2
          go_wp2_with fail
          go_quiet (fail)
          go_wp2_with fail
          go_quiet (fail)
          go_wp2_with fail
          refine (rput_any _ fl (x0, x1, x2, true, false) _ (by have := HN.out; omega) HRS.out (HO1n.out.below (by first | exact below_drewN (Below.refl _ _) _ | exact below_drewN (below_drewN (Below.refl _ _) _) _) (Nat.le_refl _))).mono ?_
          rintro e w5 ⟨v5, rfl, ho5, hb5⟩
          have HO5 := Lib.hid (ho5.mono (base' := w.heap.size) HB1.out.size)
          have HB5 := Lib.hid (below_then (by first | exact below_drewN HB1.out _ | exact below_drewN (below_drewN HB1.out _) _) hb5)
          clear ho5 hb5
          go_wp2_with fail
          refine bodyPost_ret (v := .tuple #[v5, .int .i64 0]) (by simp [results, Try.results80, go_sem]) rfl ?_
          rw [HRF.out]
          exact ⟨_, rfl, HO5.out, HB5.out⟩

end Go.Proofs.Ytncgpojjibojlaa
