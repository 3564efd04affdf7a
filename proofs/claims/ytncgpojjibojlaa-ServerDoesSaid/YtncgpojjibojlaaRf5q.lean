/- sutureref10.Restart, Scrub: their contracts. -/
import Derived.Test.YtncgpojjibojlaaGoq
import Derived.Test.YtncgpojjibojlaaReSq
import Derived.Test.YtncgpojjibojlaaGkq
import Derived.Test.YtncgpojjibojlaaReplicaRemovesq
namespace Go.Proofs.Ytncgpojjibojlaa
open Go Go.RowKit

theorem filt_snoc (p : Re → Bool) (l : List Re) (x : Re) : (l ++ [x]).filter p = l.filter p ++ (if p x then [x] else []) := by
  rw [List.filter_append]
  congr 1
  cases h : p x <;> simp [h]

set_option maxHeartbeats 2000000 in
set_option maxRecDepth 100000 in
theorem rrestart_any (v : Value) (l : List Re) (w : World) (hl : l.length ≤ 1000) (hR : Rd w 5 v l.length (l.flatMap reC)) :
    Calls Try.prog 66 #[v] w (FreshR (rstR l) w) := by
  have HR := Lib.hid hR
  clear hR
  have hfl := fairR_len l
  have hdef : rstR l = (fairR l).filter (fun z => !z.2.2.2.1) := rfl
  have HDEF := Lib.hid hdef
  clear hdef
  go_enter Try.func66, Try.ntmps66
  go_wp2_with fail
  refine (rfair_any v l w (by omega) HR.out).mono ?_
  rintro e w1 ⟨v1, rfl, ho1, hb1⟩
  have HO1 := Lib.hid ho1.rd
  have HB1 := Lib.hid hb1
  have hs1 := hb1.size
  obtain ⟨A1, cap1, hv1⟩ := ho1.slice_
  subst hv1
  clear ho1 hb1
  have hris := fairR_ris l
  have HRIS := Lib.hid hris
  obtain ⟨fl, hfl2⟩ : ∃ f, fairR l = f := ⟨_, rfl⟩
  rw [hfl2] at hfl HO1 HRIS ⊢
  have HFL := Lib.hid hfl2
  obtain ⟨n, hn⟩ : ∃ n, fl.length = n := ⟨_, rfl⟩
  have HN := Lib.hid hn
  rw [hn] at hfl ⊢
  have HO1n := Lib.hid (rdN hn HO1.out)
  clear hn hfl2 hris
  rw [HFL.out] at HDEF
  go_wp2_with fail
  go_loopw [4, 5] (fun s4 s5 wr => ∃ k : Nat, k ≤ n ∧ s5 = .int .i64 k ∧ Own wr w1.heap.size 52 5 s4 ((fl.take k).filter (fun z => !z.2.2.2.1)).length (((fl.take k).filter (fun z => !z.2.2.2.1)).flatMap reC) ∧ Below w1.heap.size w1 wr) (fun _ s5 _ => n - (intOf s5).toNat)
  case atStart => exact ⟨0, Nat.zero_le _, rfl, by rw [List.take_zero]; exact Own.nil_ _ _ _ _, Below.refl _ _⟩
  case round =>
    obtain ⟨k, hk, rfl, hown, hbel⟩ := hrel
    obtain ⟨A5, cap5, hv5⟩ := hown.slice_
    subst hv5
    have HO := Lib.hid hown
    have HB := Lib.hid hbel
    have hsr := hbel.size
    have hql : ((fl.take k).filter (fun z : Re => !z.2.2.2.1)).length ≤ k := Nat.le_trans (List.length_filter_le _ _) (by rw [List.length_take]; omega)
    obtain ⟨q, hq⟩ : ∃ q, (fl.take k).filter (fun z : Re => !z.2.2.2.1) = q := ⟨_, rfl⟩
    have HQ := Lib.hid hq
    rw [hq] at hql HO ⊢
    clear hown hbel hq
    by_cases hlt : k < n
    · skip
      have hltI : (k : Int) < (n : Int) := by omega
      have hR1 := HO1n.out.below HB.out (Nat.le_refl _)
      rw [HN.out] at hR1
      obtain ⟨b, off, hA, hbl⟩ := hR1.addr (by omega)
      subst hA
      obtain ⟨c0, c1, c2, c3, c4⟩ := rd_re hR1 k (by rw [HN.out]; exact hlt)
      obtain ⟨x, hx⟩ : ∃ x, at_ fl k = x := ⟨_, rfl⟩
      rw [hx] at c0 c1 c2 c3 c4
      have htk := take_at (l := fl) (i := k) (by rw [HN.out]; exact hlt)
      rw [hx] at htk
      have hs := filt_snoc (fun z : Re => !z.2.2.2.1) (fl.take k) x
      rw [← htk, HQ.out] at hs
      have HS := Lib.hid hs
      clear hx hR1 htk hs
      obtain ⟨x0, x1, x2, x3, x4⟩ := x
      simp only at c0 c1 c2 c3 c4
      cases x3 with
      | true =>
        have hs : (fl.take (k + 1)).filter (fun z : Re => !z.2.2.2.1) = q := by have := HS.out; simpa using this
        have HS2 := Lib.hid hs
        clear hs HS
        go_wp2_with fail
        go_roundw
        case rel => exact ⟨k + 1, by omega, by go_num, by rw [HS2.out]; exact HO.out, HB.out⟩
        case measure => simp [intOf]; omega
      | false =>
        have hs : (fl.take (k + 1)).filter (fun z : Re => !z.2.2.2.1) = q ++ [(x0, x1, x2, false, x4)] := by have := HS.out; simpa using this
        have HS2 := Lib.hid hs
        clear hs HS
        go_wp2_with (at_builtin; refine wpList_app_re rfl (.tmp 20) (.tmp 25) rfl w1.heap.size (.slice A5 q.length cap5) q rfl (HO.out.alloc _) (.slice (some ⟨wr.heap.size, 0, none⟩) 1 1) [(x0, x1, x2, false, x4)] rfl (rd_re1 _ (Bx.new wr 52 (reC (x0, x1, x2, false, x4)))) (by simp; omega) (by simp; omega) ?_; intro v4 w4 hown4 _ _ hb4; have HO4 := Lib.hid hown4; have HB4 := Lib.hid hb4; clear hown4 hb4)
        go_roundw
        case rel => exact ⟨k + 1, by omega, by go_num, by rw [HS2.out]; exact HO4.out, (HB.out.alloc hsr _).trans HB4.out⟩
        case measure => simp [intOf]; omega
    · obtain rfl : k = n := by omega
      have HQL : Hid (rstR l = q) := by have := HQ.out; rw [← HN.out, List.take_length] at this; exact HDEF.out.trans this
      go_wp2_with fail
      go_ret
      exact ⟨_, rfl, by rw [HQL.out]; exact HO.out.mono hs1, HB1.out.trans (HB.out.mono hs1)⟩

/-- Two slices of the call's own that lie apart. -/
theorem sep_app {w : World} {vt vh vt' : Value} (sp : Sep vt vh) (h : blk vt' = blk vt ∨ blk vt' = some w.heap.size) (hh : ∀ g, blk vh = some g → g < w.heap.size) : Sep vt' vh := by
  intro g hg hg2
  rcases h with h | h
  · exact sp g (h ▸ hg) hg2
  · rw [h] at hg
    cases hg
    have := hh _ hg2
    omega
theorem Sep.symm {u v : Value} (h : Sep u v) : Sep v u := fun g h1 h2 => h g h2 h1

set_option maxHeartbeats 2000000 in
set_option maxRecDepth 100000 in
theorem rscrub_any (v : Value) (l : List Re) (w : World) (hl : l.length ≤ 1000) (hR : Rd w 5 v l.length (l.flatMap reC)) :
    Calls Try.prog 42 #[v] w (ScrE l w) := by
  have HR := Lib.hid hR
  clear hR
  have hfl := fairR_len l
  go_enter Try.func42, Try.ntmps42
  go_wp2_with fail
  refine (rfair_any v l w (by omega) HR.out).mono ?_
  rintro e w1 ⟨v1, rfl, ho1, hb1⟩
  have HO1 := Lib.hid ho1.rd
  have HB1 := Lib.hid hb1
  have hs1 := hb1.size
  obtain ⟨A1, cap1, hv1⟩ := ho1.slice_
  subst hv1
  clear ho1 hb1
  have hris := fairR_ris l
  have HRIS := Lib.hid hris
  obtain ⟨fl, hfl2⟩ : ∃ f, fairR l = f := ⟨_, rfl⟩
  rw [hfl2] at hfl HO1 HRIS ⊢
  have HFL := Lib.hid hfl2
  obtain ⟨n, hn⟩ : ∃ n, fl.length = n := ⟨_, rfl⟩
  have HN := Lib.hid hn
  rw [hn] at hfl ⊢
  have HO1n := Lib.hid (rdN hn HO1.out)
  clear hn hfl2 hris
  go_wp2_with fail
  go_loopw [5, 6, 7] (fun s5 s6 s7 wr => ∃ k : Nat, k ≤ n ∧ s7 = .int .i64 k ∧ Own wr w1.heap.size 52 5 s5 ((fl.take k).filter (fun z => !z.2.2.2.2)).length (((fl.take k).filter (fun z => !z.2.2.2.2)).flatMap reC) ∧ Own wr w1.heap.size 3 1 s6 (badsI (fl.take k)).length ((badsI (fl.take k)).flatMap inC) ∧ Sep s5 s6 ∧ Below w1.heap.size w1 wr) (fun _ _ s7 _ => n - (intOf s7).toNat)
  case atStart => exact ⟨0, Nat.zero_le _, rfl, by rw [List.take_zero]; exact Own.nil_ _ _ _ _, by rw [List.take_zero]; exact Own.nil_ _ _ _ _, (fun g (h1 : none = some g) _ => nomatch h1), Below.refl _ _⟩
  case round =>
    obtain ⟨k, hk, rfl, hown, hgone, hsep, hbel⟩ := hrel
    obtain ⟨A5, cap5, hv5⟩ := hown.slice_
    subst hv5
    obtain ⟨A6, cap6, hv6⟩ := hgone.slice_
    subst hv6
    have HO := Lib.hid hown
    have HG := Lib.hid hgone
    have HB := Lib.hid hbel
    have hsr := hbel.size
    have hql : ((fl.take k).filter (fun z : Re => !z.2.2.2.2)).length ≤ k := Nat.le_trans (List.length_filter_le _ _) (by rw [List.length_take]; omega)
    have hgl : (badsI (fl.take k)).length ≤ k := Nat.le_trans (badsI_len _) (by rw [List.length_take]; omega)
    obtain ⟨q, hq⟩ : ∃ q, (fl.take k).filter (fun z : Re => !z.2.2.2.2) = q := ⟨_, rfl⟩
    obtain ⟨p, hp⟩ : ∃ p, badsI (fl.take k) = p := ⟨_, rfl⟩
    have HQ := Lib.hid hq
    have HP := Lib.hid hp
    rw [hq] at hql HO hsep ⊢
    rw [hp] at hgl HG hsep ⊢
    have HSEP := Lib.hid hsep
    clear hown hgone hbel hq hp hsep
    by_cases hlt : k < n
    · skip
      have hltI : (k : Int) < (n : Int) := by omega
      have hR1 := HO1n.out.below HB.out (Nat.le_refl _)
      rw [HN.out] at hR1
      obtain ⟨b, off, hA, hbl⟩ := hR1.addr (by omega)
      subst hA
      obtain ⟨c0, c1, c2, c3, c4⟩ := rd_re hR1 k (by rw [HN.out]; exact hlt)
      obtain ⟨x, hx⟩ : ∃ x, at_ fl k = x := ⟨_, rfl⟩
      rw [hx] at c0 c1 c2 c3 c4
      have htk := take_at (l := fl) (i := k) (by rw [HN.out]; exact hlt)
      rw [hx] at htk
      have hs := filt_snoc (fun z : Re => !z.2.2.2.2) (fl.take k) x
      rw [← htk, HQ.out] at hs
      have hs2 := badsI_snoc (fl.take k) x
      rw [← htk, HP.out] at hs2
      have HS := Lib.hid hs
      have HT := Lib.hid hs2
      clear hx hR1 htk hs hs2
      obtain ⟨x0, x1, x2, x3, x4⟩ := x
      simp only at c0 c1 c2 c3 c4
      cases x4 with
      | true =>
        have hs : (fl.take (k + 1)).filter (fun z : Re => !z.2.2.2.2) = q := by have := HS.out; simpa using this
        have hs2 : badsI (fl.take (k + 1)) = p ++ [x0] := by have := HT.out; simpa using this
        have HS2 := Lib.hid hs
        have HT2 := Lib.hid hs2
        clear hs HS hs2 HT
        go_wp2_with (at_builtin; refine wpList_app_in2 rfl (.tmp 21) (.tmp 27) rfl w1.heap.size (.slice A6 p.length cap6) p rfl (HG.out.alloc _) (.slice (some ⟨wr.heap.size, 0, none⟩) 1 1) [x0] rfl (rd_one (t := 3) (heap_alloc_new _ _) rfl) (by simp; omega) (by simp; omega) ?_; intro v4 w4 hown4 hfr4 hbk4 hb4; have hq4 := (HO.out.alloc (.cells #[.int .i64 x0] 3)).fr hfr4 (fun g hg h2 => HSEP.out g hg h2); have HO4 := Lib.hid hown4; have HQ4 := Lib.hid hq4; have HS4 := Lib.hid ((sep_app HSEP.out.symm hbk4 (fun g hg => by have := (HO.out.blk_lt hg).2; simp; omega)).symm); have HB4 := Lib.hid hb4; clear hown4 hfr4 hbk4 hb4 hq4)
        go_roundw
        case rel => exact ⟨k + 1, by omega, by go_num, by rw [HS2.out]; exact HQ4.out, by rw [HT2.out]; exact HO4.out, HS4.out, (HB.out.alloc hsr _).trans HB4.out⟩
        case measure => simp [intOf]; omega
      | false =>
        have hs : (fl.take (k + 1)).filter (fun z : Re => !z.2.2.2.2) = q ++ [(x0, x1, x2, x3, false)] := by have := HS.out; simpa using this
        have hs2 : badsI (fl.take (k + 1)) = p := by have := HT.out; simpa using this
        have HS2 := Lib.hid hs
        have HT2 := Lib.hid hs2
        clear hs HS hs2 HT
        go_wp2_with (at_builtin; refine wpList_app_re rfl (.tmp 29) (.tmp 34) rfl w1.heap.size (.slice A5 q.length cap5) q rfl (HO.out.alloc _) (.slice (some ⟨wr.heap.size, 0, none⟩) 1 1) [(x0, x1, x2, x3, false)] rfl (rd_re1 _ (Bx.new wr 52 (reC (x0, x1, x2, x3, false)))) (by simp; omega) (by simp; omega) ?_; intro v4 w4 hown4 hfr4 hbk4 hb4; have hq4 := (HG.out.alloc (.cells #[.int .i64 x0, .int .i64 x1, .int .u32 x2, .bool x3, .bool false] 52)).fr hfr4 (fun g hg h2 => HSEP.out g h2 hg); have HO4 := Lib.hid hown4; have HQ4 := Lib.hid hq4; have HS4 := Lib.hid (sep_app HSEP.out hbk4 (fun g hg => by have := (HG.out.blk_lt hg).2; simp; omega)); have HB4 := Lib.hid hb4; clear hown4 hfr4 hbk4 hb4 hq4)
        go_roundw
        case rel => exact ⟨k + 1, by omega, by go_num, by rw [HS2.out]; exact HO4.out, by rw [HT2.out]; exact HQ4.out, HS4.out, (HB.out.alloc hsr _).trans HB4.out⟩
        case measure => simp [intOf]; omega
    · obtain rfl : k = n := by omega
      have HQL : Hid ((fairR l).filter (fun z => !z.2.2.2.2) = q) := by have := HQ.out; rw [← HN.out, List.take_length] at this; rw [HFL.out]; exact this
      have HPL : Hid (badsI (fairR l) = p) := by have := HP.out; rw [← HN.out, List.take_length] at this; rw [HFL.out]; exact this
      go_wp2_with fail
      refine bodyPost_ret (v := .tuple #[.slice A5 q.length cap5, .slice A6 p.length cap6]) (by simp [results, Try.results42, go_sem]) rfl ?_
      refine ⟨_, _, rfl, ?_, ?_, HB1.out.trans (HB.out.mono hs1)⟩
      · rw [HQL.out]; exact HO.out.mono hs1
      · rw [HPL.out]; exact HG.out.mono hs1

end Go.Proofs.Ytncgpojjibojlaa
