/- suturelaw10.did: its contract. -/
import Derived.Test.YtncgpojjibojlaaDoes
import Derived.Test.YtncgpojjibojlaaRf4
import Derived.Test.YtncgpojjibojlaaRf5
import Derived.Test.YtncgpojjibojlaaRf6
namespace Go.Proofs.Ytncgpojjibojlaa
open Go Go.RowKit

set_option maxHeartbeats 4000000 in
set_option maxRecDepth 100000 in
theorem did_any (v : Value) (l : List Re) (o : Oq) (w : World) (hl : l.length ≤ 900) (hR : Rd w 5 v l.length (l.flatMap reC)) :
    Calls Try.prog 41 #[v, .agg #[.int .i64 o.1, .int .i64 o.2.1.1, .int .i64 o.2.1.2.1, .int .u32 o.2.1.2.2.1, .bool o.2.1.2.2.2.1, .bool o.2.1.2.2.2.2, .int .i64 o.2.2]] w (FreshT (doR l o) w) := by
  obtain ⟨k, ⟨x0, x1, x2, x3, x4⟩, r⟩ := o
  dsimp only
  obtain ⟨A, cap, hv, hcap, hnc⟩ := hR.shape
  subst hv
  obtain ⟨n, hn⟩ : ∃ n, l.length = n := ⟨_, rfl⟩
  have HN := Lib.hid hn
  have hal := below_one w (.cells #[.int .i64 k, .int .i64 x0, .int .i64 x1, .int .u32 x2, .bool x3, .bool x4, .int .i64 r] 69)
  have hbx := Bx.new w 69 [.int .i64 k, .int .i64 x0, .int .i64 x1, .int .u32 x2, .bool x3, .bool x4, .int .i64 r]
  change Bx (w.alloc (.cells #[.int .i64 k, .int .i64 x0, .int .i64 x1, .int .u32 x2, .bool x3, .bool x4, .int .i64 r] 69)) _ _ _ at hbx
  obtain ⟨q0, q1, q2, q3, q4, q5, q6⟩ := hbx.seven
  have HAL := Lib.hid hal
  have HR : Hid (Rd (w.alloc (.cells #[.int .i64 k, .int .i64 x0, .int .i64 x1, .int .u32 x2, .bool x3, .bool x4, .int .i64 r] 69)) 5 (.slice A l.length cap) l.length (l.flatMap reC)) := hR.below hal (Nat.le_refl _)
  rw [hn] at HR ⊢
  have HR2 : Hid (Rd (w.alloc (.cells #[.int .i64 k, .int .i64 x0, .int .i64 x1, .int .u32 x2, .bool x3, .bool x4, .int .i64 r] 69)) 5 (.slice A n cap) l.length (l.flatMap reC)) := by rw [HN.out]; exact HR.out
  clear hal hbx hR hn HR
  by_cases h0 : k = 0
  · have e0 : doR l (k, (x0, x1, x2, x3, x4), r) = bgnR l (x0, x1, x2, x3, x4) r := by unfold doR; simp [h0]
    rw [e0]
    clear e0
    subst h0
    obtain ⟨⟨a, m⟩, hm⟩ : ∃ p, bgnR l (x0, x1, x2, x3, x4) r = p := ⟨_, rfl⟩
    rw [hm]
    have HM := Lib.hid hm
    clear hm
    go_enter Try.func41, Try.ntmps41
    go_wp2_with fail
    refine (rbegin_any _ l (x0, x1, x2, x3, x4) r _ (by omega) HR2.out).mono ?_
    rintro e w2 ⟨v2, rfl, ho2, hb2⟩
    rw [HM.out] at ho2 ⊢
    dsimp only at ho2 ⊢
    have HO2 := Lib.hid (ho2.mono HAL.out.size)
    have HB2 := Lib.hid (below_then HAL.out hb2)
    clear ho2 hb2 q0 q1 q2 q3 q4 q5 q6
    go_wp2_with fail
    refine bodyPost_ret (v := .tuple #[v2, .int .i64 a]) (by simp [results, Try.results41, go_sem]) rfl ⟨v2, rfl, HO2.out, HB2.out⟩
  by_cases h1 : k = 1
  · have e1 : doR l (k, (x0, x1, x2, x3, x4), r) = cmtR l x0 x1 := by unfold doR; simp [h1]
    rw [e1]
    clear e1
    subst h1
    obtain ⟨⟨a, m⟩, hm⟩ : ∃ p, cmtR l x0 x1 = p := ⟨_, rfl⟩
    rw [hm]
    have HM := Lib.hid hm
    clear hm
    go_enter Try.func41, Try.ntmps41
    go_wp2_with fail
    refine (rcommit_any _ l x0 x1 _ (by omega) HR2.out).mono ?_
    rintro e w2 ⟨v2, rfl, ho2, hb2⟩
    rw [HM.out] at ho2 ⊢
    dsimp only at ho2 ⊢
    have HO2 := Lib.hid (ho2.mono HAL.out.size)
    have HB2 := Lib.hid (below_then HAL.out hb2)
    clear ho2 hb2 q0 q1 q2 q3 q4 q5 q6
    go_wp2_with fail
    refine bodyPost_ret (v := .tuple #[v2, .int .i64 a]) (by simp [results, Try.results41, go_sem]) rfl ⟨v2, rfl, HO2.out, HB2.out⟩
  by_cases h2 : k = 2
  · have e2 : doR l (k, (x0, x1, x2, x3, x4), r) = (0, abtR l x0) := by unfold doR; simp [h2]
    rw [e2]
    clear e2
    subst h2
    go_enter Try.func41, Try.ntmps41
    go_wp2_with fail
    refine (rabort_any _ l x0 _ (by omega) HR2.out).mono ?_
    rintro e w2 ⟨v2, rfl, ho2, hb2⟩
    have HO2 := Lib.hid (ho2.mono HAL.out.size)
    have HB2 := Lib.hid (below_then HAL.out hb2)
    clear ho2 hb2 q0 q1 q2 q3 q4 q5 q6
    go_wp2_with fail
    refine bodyPost_ret (v := .tuple #[v2, .int .i64 0]) (by simp [results, Try.results41, go_sem]) rfl ⟨v2, rfl, HO2.out, HB2.out⟩
  by_cases h3 : k = 3
  · have e3 : doR l (k, (x0, x1, x2, x3, x4), r) = rmvR l x0 := by unfold doR; simp [h3]
    rw [e3]
    clear e3
    subst h3
    obtain ⟨⟨a, m⟩, hm⟩ : ∃ p, rmvR l x0 = p := ⟨_, rfl⟩
    rw [hm]
    have HM := Lib.hid hm
    clear hm
    go_enter Try.func41, Try.ntmps41
    go_wp2_with fail
    refine (rremove_any _ l x0 _ (by omega) HR2.out).mono ?_
    rintro e w2 ⟨v2, rfl, ho2, hb2⟩
    rw [HM.out] at ho2 ⊢
    dsimp only at ho2 ⊢
    have HO2 := Lib.hid (ho2.mono HAL.out.size)
    have HB2 := Lib.hid (below_then HAL.out hb2)
    clear ho2 hb2 q0 q1 q2 q3 q4 q5 q6
    go_wp2_with fail
    refine bodyPost_ret (v := .tuple #[v2, .int .i64 a]) (by simp [results, Try.results41, go_sem]) rfl ⟨v2, rfl, HO2.out, HB2.out⟩
  by_cases h4 : k = 4
  · have e4 : doR l (k, (x0, x1, x2, x3, x4), r) = splR l x0 := by unfold doR; simp [h4]
    rw [e4]
    clear e4
    subst h4
    obtain ⟨⟨a, m⟩, hm⟩ : ∃ p, splR l x0 = p := ⟨_, rfl⟩
    rw [hm]
    have HM := Lib.hid hm
    clear hm
    go_enter Try.func41, Try.ntmps41
    go_wp2_with fail
    refine (rspoil_any _ l x0 _ (by omega) HR2.out).mono ?_
    rintro e w2 ⟨v2, rfl, ho2, hb2⟩
    rw [HM.out] at ho2 ⊢
    dsimp only at ho2 ⊢
    have HO2 := Lib.hid (ho2.mono HAL.out.size)
    have HB2 := Lib.hid (below_then HAL.out hb2)
    clear ho2 hb2 q0 q1 q2 q3 q4 q5 q6
    go_wp2_with fail
    refine bodyPost_ret (v := .tuple #[v2, .int .i64 a]) (by simp [results, Try.results41, go_sem]) rfl ⟨v2, rfl, HO2.out, HB2.out⟩
  by_cases h5 : k = 5
  · have e5 : doR l (k, (x0, x1, x2, x3, x4), r) = (0, scrR l) := by unfold doR; simp [h5]
    rw [e5]
    clear e5
    subst h5
    go_enter Try.func41, Try.ntmps41
    go_wp2_with fail
    refine (rscrub_any _ l _ (by omega) HR2.out).mono ?_
    rintro e w2 ⟨v2, g2, rfl, ho2, _, hb2⟩
    have HO2 := Lib.hid (ho2.mono HAL.out.size)
    have HB2 := Lib.hid (below_then HAL.out hb2)
    clear ho2 hb2 q0 q1 q2 q3 q4 q5 q6
    go_wp2_with fail
    refine bodyPost_ret (v := .tuple #[v2, .int .i64 0]) (by simp [results, Try.results41, go_sem]) rfl ⟨v2, rfl, HO2.out, HB2.out⟩
  have e6 : doR l (k, (x0, x1, x2, x3, x4), r) = (0, rstR l) := by unfold doR; simp [h0, h1, h2, h3, h4, h5]
  rw [e6]
  clear e6
  go_enter Try.func41, Try.ntmps41
  go_wp2_with fail
  refine (rrestart_any _ l _ (by omega) HR2.out).mono ?_
  rintro e w2 ⟨v2, rfl, ho2, hb2⟩
  have HO2 := Lib.hid (ho2.mono HAL.out.size)
  have HB2 := Lib.hid (below_then HAL.out hb2)
  clear ho2 hb2 q0 q1 q2 q3 q4 q5 q6
  go_wp2_with fail
  refine bodyPost_ret (v := .tuple #[v2, .int .i64 0]) (by simp [results, Try.results41, go_sem]) rfl ⟨v2, rfl, HO2.out, HB2.out⟩

end Go.Proofs.Ytncgpojjibojlaa
