/- replica.Commit: its contract. -/
import Derived.Test.YtncgpojjibojlaaReO3q
import Derived.IntWalk
namespace Go.Proofs.Ytncgpojjibojlaa
open Go Go.RowKit Go.Sort

set_option maxHeartbeats 4000000 in
set_option maxRecDepth 100000 in
theorem commit_any (v : Value) (l : List Re) (c u : Int) (w : World) (hl : l.length ≤ 900) (hR : Rd w 5 v l.length (l.flatMap reC)) :
    Calls Try.prog 31 #[v, .int .i64 c, .int .i64 u] w (FreshT (cmtR l c u) w) := by
  have HR := Lib.hid hR
  have hrm : cmtR l c u = match findR (fairR l) c true with
    | none => (5, [])
    | some t => if t.2.1 = u then (0, putR (dropR (fairR l) (2 * c + 1)) (t.1, t.2.1, t.2.2.1, false, t.2.2.2.2)) else (5, []) := rfl
  have HRM := Lib.hid hrm
  clear hR hrm
  have hfl := fairR_len l
  go_enter Try.func31, Try.ntmps31
  go_wp2_with fail
  refine (fairR_any v l w (by omega) HR.out).mono ?_
  rintro e w1 ⟨v1, rfl, ho1, hb1⟩
  have HO1 := Lib.hid ho1
  have HB1 := Lib.hid hb1
  clear ho1 hb1
  go_wp2_with fail
  refine (findR_case _ (fairR l) c true w1 (by omega) (fairR_ris l) HO1.out.rd).mono ?_
  rintro e w2 (⟨i, rfl, hi, hf, hx1, hx2, hcut, hisat, hb2⟩ | ⟨i, hi, rfl, hf, hb2⟩)
  · have HO2 := Lib.hid (HO1.out.below hb2 (Nat.le_refl _))
    have HB2 := Lib.hid (below_then HB1.out hb2)
    have hrs := fairR_ris l
    obtain ⟨fl, hfl2⟩ : ∃ fl, fairR l = fl := ⟨_, rfl⟩
    rw [hfl2] at hi hfl HO2 hf HRM hx1 hx2 hcut hisat hrs
    have HDC := Lib.hid (drop_at_cut hcut hrs hisat)
    have HRS := Lib.hid hrs
    obtain ⟨n, hn⟩ : ∃ n, fl.length = n := ⟨_, rfl⟩
    have hO2 := HO2.out
    rw [hn] at hi hfl hO2
    have HN := Lib.hid hn
    obtain ⟨g, off, cap, hv, hnc, hcm, hbg, hgl, hbk⟩ := hO2.form (by omega)
    subst hv
    have hiI : (i : Int) < (n : Int) := by omega
    obtain ⟨c0, c1, c2, c3, c4⟩ := rd_re hO2.rd i (by rw [HN.out]; exact hi)
    obtain ⟨x, hx⟩ : ∃ x, at_ fl i = x := ⟨_, rfl⟩
    rw [hx] at c0 c1 c2 c3 c4 hx1 hx2 hf
    obtain ⟨x0, x1, x2, x3, x4⟩ := x
    simp only at c0 c1 c2 c3 c4 hx1 hx2
    subst hx1 hx2
    have hsw : w.heap.size ≤ w1.heap.size := HB1.out.size
    have hsw2 : w.heap.size ≤ w2.heap.size := HB2.out.size
    have HO2n := Lib.hid hO2
    have HBG := Lib.hid hbk
    by_cases hv : x1 = u
    · subst hv
      have hrf : cmtR l x0 x1 = (0, putR (dropR fl (2 * x0 + 1)) (x0, x1, x2, false, x4)) := by rw [HRM.out, hf]; simp
      have HRF := Lib.hid hrf
      clear hrf hf hx hb2 hfl2 hn hO2 hbk hcut hisat hrs HRM HO1
      have hne : (x1 != x1) = false := by simp
      go_wp2_with fail
      have hal := below_one w2 (.cells #[.int .i64 x0, .int .i64 x1, .int .u32 x2, .bool false, .bool x4] 52)
      have hbx := Bx.new w2 52 [.int .i64 x0, .int .i64 x1, .int .u32 x2, .bool false, .bool x4]
      change Bx (w2.alloc (.cells #[.int .i64 x0, .int .i64 x1, .int .u32 x2, .bool false, .bool x4] 52)) _ _ _ at hbx
      generalize (w2.alloc (.cells #[.int .i64 x0, .int .i64 x1, .int .u32 x2, .bool false, .bool x4] 52)) = w3 at *
      have HO3 := Lib.hid (HO2n.out.below hal (Nat.le_refl _))
      have HB3 := Lib.hid (HB2.out.trans (hal.mono hsw2))
      have hgb : g < w2.heap.size := hgl
      obtain ⟨bb, hbb⟩ : ∃ b, w2.heap.size = b := ⟨_, rfl⟩
      rw [hbb] at hbx hgb ⊢
      have HX3 := Lib.hid hbx
      have hs3 : w.heap.size ≤ w3.heap.size := HB3.out.size
      have hbl : bb < w3.heap.size := hbx.lt
      obtain ⟨q0, q1, q2, q3, q4⟩ := hbx.five
      have hwr : IntKind.i64.wrap ((i : Int) + 1) = (i : Int) + 1 := IntWalk.i64_in _ (by omega)
      have hto : ((i : Int) + 1).toNat = i + 1 := by omega
      have hi0 : (0 : Int) ≤ (i : Int) + 1 := by omega
      have QF := fun (w' : World) (hb : Fr (fun k => blk (.slice (some ⟨g, off, none⟩) n cap) = some k) w3 w') => (HX3.out.fr hb (fun e => by have h5 := HBG.out; rw [h5] at e; cases e; omega)).five
      have F30 : Fr (fun k => blk (.slice (some ⟨g, off, none⟩) n cap) = some k) w3 w3.drew := Fr.drew w3 _
      have HO3d := Lib.hid (HO3.out.drew)
      have CD := delR_any w.heap.size (.slice (some ⟨g, off, none⟩) n cap) fl i w3.drew (by rw [HN.out]; omega) (by rw [HN.out]; exact hi) hs3 (by rw [HN.out]; exact HO3d.out)
      rw [HDC.out] at CD
      have hdl : (dropR fl (2 * x0 + flI true)).length ≤ n := by rw [← HN.out]; exact dropR_len_le _ _
      obtain ⟨dl, hdl2⟩ : ∃ d, dropR fl (2 * x0 + flI true) = d := ⟨_, rfl⟩
      rw [hdl2] at CD hdl
      have HDL := Lib.hid hdl2
      have hdr : Ris kR dl := by rw [← hdl2]; exact dropR_ris HRS.out _
      have HDR := Lib.hid hdr
      have HCD := Lib.hid CD
      clear hal hbx hbb c0 c1 c2 c3 c4 hdl2 hdr CD HO3
      go_region_held3 (fun w' => w'.cell? ⟨bb, 0, none⟩ = some (.int .i64 x0) ∧ w'.cell? ⟨bb, 1, none⟩ = some (.int .i64 x1) ∧ w'.cell? ⟨bb, 2, none⟩ = some (.int .u32 x2) ∧ w'.cell? ⟨bb, 3, none⟩ = some (.bool false) ∧ w'.cell? ⟨bb, 4, none⟩ = some (.bool x4))
        (first | exact QF _ F35 | exact QF _ F34 | exact QF _ F30 | go_keep)
        (first
          | (go_at_call 73; refine HCD.out.mono ?_; rintro e w4 ⟨v4, rfl, ho4, hf4, hk4⟩; have F34 := F30.trans hf4 (fun _ h => .inl h); have HO4 := Lib.hid ho4; have HK4 := Lib.hid hk4; obtain ⟨A4, cap4, e4⟩ := ho4.slice_; subst e4; have hs4 := hf4.size; clear ho4 hf4 hk4)
          | (go_at_call 72; refine (putR_any w.heap.size _ dl (x0, x1, x2, false, x4) _ (by omega) HDR.out (Nat.le_trans hs3 hs4) HO4.out).mono ?_; rintro e w5 ⟨v5, rfl, ho5, hf5, _⟩; have F35 : Fr (fun k => blk (.slice (some ⟨g, off, none⟩) n cap) = some k) w3 w5 := F34.trans hf5 (fun k hk => by (rcases HK4.out with h6 | ⟨k', h6, h7⟩; exact .inl (by rw [← h6]; exact hk); exact .inr (by rw [h6] at hk; cases hk; exact h7))); have HO5 := Lib.hid ho5; obtain ⟨A5, cap5, e5⟩ := ho5.slice_; subst e5; clear ho5 hf5))
      have HB5 := Lib.hid (HB3.out.trans (F35.below (B := w.heap.size) hs3 (fun k hk => by have h5 := HBG.out; rw [h5] at hk; cases hk; exact hbg)))
      clear QF F30 F34 F35 q0 q1 q2 q3 q4 hwr hto HCD
      go_wp2_with fail
      refine bodyPost_ret (v := .tuple #[.slice A5 (putR dl (x0, x1, x2, false, x4)).length cap5, .int .i64 0]) (by simp [results, Try.results31, go_sem]) rfl ?_
      rw [HRF.out, show dropR fl (2 * x0 + 1) = dl from HDL.out]
      exact ⟨_, rfl, HO5.out, HB5.out⟩
    · have hne : (x1 != u) = true := by simpa using hv
      have hrf : cmtR l x0 u = (5, []) := by rw [HRM.out, hf]; simp [hv]
      have HRF := Lib.hid hrf
      clear hrf hf hx hb2 hfl2 hn hO2 hbk hcut hisat hrs HRM HO1 hv
      go_wp2_with fail
      refine bodyPost_ret (v := .tuple #[.slice none 0 0, .int .i64 5]) (by simp [results, Try.results31, go_sem]) rfl ?_
      rw [HRF.out]
      exact ⟨_, rfl, Own.nil_ _ _ _ _, HB2.out⟩
  · have hrf : cmtR l c u = (5, []) := by rw [HRM.out, hf]
    have HRF := Lib.hid hrf
    have HB2 := Lib.hid (below_then HB1.out hb2)
    clear hf hb2 hrf HRM
    go_wp2_with fail
    refine bodyPost_ret (v := .tuple #[.slice none 0 0, .int .i64 5]) (by simp [results, Try.results31, go_sem]) rfl ?_
    rw [HRF.out]
    exact ⟨_, rfl, Own.nil_ _ _ _ _, HB2.out⟩

end Go.Proofs.Ytncgpojjibojlaa
