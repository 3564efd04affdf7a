/- ServerForgets: the walk. -/
import Derived.Test.YtncgpojjibojlaaGgq
namespace Go.Proofs.Ytncgpojjibojlaa
open Go Go.RowKit Go.Sort

theorem SrvAt.below_ {w w' : World} {G : Nat → Prop} {p k : Nat} {s : Sv} (h : SrvAt w G p k s) (hb : Below w.heap.size w w') : SrvAt w' G p k s := by
  obtain ⟨lv, mb, F, h⟩ := h
  exact ⟨lv, mb, F, h.below' hb⟩
theorem SrvAt.off_new {w w' : World} {G : Nat → Prop} {p k : Nat} {s : Sv} (h : SrvAt w G p k s) {n : Nat} {v : Value} {xs : List Value} {t : TypeId} (ho : Own w' w.heap.size t 1 v n xs) : ∀ g, blk v = some g → ¬ G g := fun g hg hG => by
  obtain ⟨lv, mb, F, h⟩ := h
  have := h.lt g hG
  have := (ho.blk_lt hg).1
  omega
theorem newS1 : (newS 1).room = 1 := by decide
theorem newS2 : (newS 2).room = 2 := by decide

set_option maxHeartbeats 8000000 in
set_option maxRecDepth 1000000 in
theorem serverForgets_walk (c v : Int) (dv : Value) (d : List Nat) (W : World) (hc : wfI c) (hv : wfI v) (hDd : okB d ∧ Rd W 1 dv d.length (d.flatMap byC)) :
    Calls Try.prog 12 #[.int .i64 c, .int .i64 v, dv] W fun e w' => e = .returned (.bool true) ∧ Below W.heap.size W w' := by
  have HC := Lib.hid hc
  clear hc hv
  obtain ⟨hokd, hRd⟩ := hDd
  obtain ⟨Ad, capd, hvd, _, hncd⟩ := hRd.shape
  subst hvd
  obtain ⟨nd, hnd⟩ : ∃ n, d.length = n := ⟨_, rfl⟩
  have HNd := Lib.hid hnd
  rw [hnd] at hRd hncd ⊢
  have HRd : Hid (∀ w', Below W.heap.size W w' → Rd w' 1 (.slice Ad nd capd) d.length (d.flatMap byC)) := fun w' hb => by rw [HNd.out]; exact hRd.below hb (Nat.le_refl _)
  have HFd : Hid (∀ G : Nat → Prop, (∀ i, G i → W.heap.size ≤ i) → OffG G (.slice Ad nd capd)) := fun G hG => hRd.offB hG
  have HOd := Lib.hid hokd
  clear hokd hRd hnd hncd
  go_enter Try.func12, Try.ntmps12
  go_wp2_with fail
  refine (awake11 W).mono ?_
  rintro e w1 ⟨rfl, hb1⟩
  have HB1 := Lib.hid hb1
  clear hb1
  go_wp2_with fail
  refine (snew_any 1 w1).mono ?_
  rintro e w2 ⟨p, G2, rfl, hs2, hg2, hb2⟩
  have HS2 := Lib.hid hs2
  have HB2 := Lib.hid (below_then HB1.out hb2)
  have HG2 : Hid (∀ i, G2 i → W.heap.size ≤ i) := fun i hi => Nat.le_trans HB1.out.size (hg2 i hi)
  clear hs2 hg2 hb2
  by_cases hbig : 64 < nd
  · have hbI : (nd : Int) > 64 := by omega
    go_wp2_with fail
    go_ret
    exact ⟨rfl, HB2.out⟩
  have hbI : ¬ ((nd : Int) > 64) := by omega
  go_wp2_with fail
  refine (sum_any _ d w2 HOd.out (HRd.out _ HB2.out)).mono ?_
  rintro e w3 ⟨rfl, hb3⟩
  have HB3 := Lib.hid (HB2.out.trans (hb3.mono HB2.out.size))
  have HG3 := HG2
  have HS3 := Lib.hid (HS2.out.below_ hb3)
  clear hb3
  obtain ⟨su, hsu⟩ : ∃ x, ((sumC d : Nat) : Int) = x := ⟨_, rfl⟩
  have HSU := Lib.hid hsu
  rw [hsu]
  clear hsu
  go_wp2_with fail
  refine (sbegin_any p 0 c v su _ d (newS 1) _ w3 HC.out (by simp [newS]) (by omega) HOd.out (HRd.out _ HB3.out) (HFd.out _ HG3.out) HS3.out).mono ?_
  rintro e w4 ⟨G4, rfl, hs4, hst4⟩
  have hbase4 := hst4.base HB3.out.size HG3.out
  have HB4 := Lib.hid (HB3.out.trans hbase4.1)
  have HG4 := Lib.hid hbase4.2
  clear hst4 hbase4
  rcases new_bgn (r := 1) (c := c) (v := v) (u := su) (d := d) with ⟨h0, heq, hdl, hs, hnm⟩ | ⟨hne, hst⟩
  · rw [newS1] at heq
    have HEQ := Lib.hid heq
    have HNM := Lib.hid hnm
    have HOKT := Lib.hid (ok_oneT (u := su) hnm (by omega : (1 : Int) ≤ 1) (by omega) hdl HOd.out)
    have HOK1 := Lib.hid (ok_one (u := su) hnm (by omega : (1 : Int) ≤ 1) (by omega) hdl HOd.out)
    rw [heq] at hs4 ⊢
    dsimp only at hs4 ⊢
    have HS4 := Lib.hid hs4
    have HREB : Hid (rebS (oneT 1 c v su d) = newS 1) := oneT_reb (r0 := 1) HOKT.out
    clear hs4 heq h0 hdl hs hnm
    go_wp2_with fail
    refine (srestart_any p 1 _ _ w4 HOKT.out HS4.out).mono ?_
    rintro e w5 ⟨G5, rfl, hs5, hst5⟩
    rw [HREB.out] at hs5
    try dsimp only at hs5
    have HS5 := Lib.hid hs5
    have hbase5 := hst5.base HB4.out.size HG4.out
    have HB5 := Lib.hid (HB4.out.trans hbase5.1)
    have HG5 := Lib.hid hbase5.2
    clear hs5 hst5 hbase5
    go_wp2_with fail
    refine (scommit_any p 1 c v (newS 1) _ w5 HC.out (by simp [newS]) (by omega) HS5.out).mono ?_
    rintro e w6 ⟨G6, rfl, hs6, hst6⟩
    rw [new_cmt] at hs6 ⊢
    try dsimp only at hs6 ⊢
    have HS6 := Lib.hid hs6
    have hbase6 := hst6.base HB5.out.size HG5.out
    have HB6 := Lib.hid (HB5.out.trans hbase6.1)
    have HG6 := Lib.hid hbase6.2
    clear hs6 hst6 hbase6
    go_wp2_with fail
    refine (sbegin_any p 2 c v su _ d (newS 1) _ w6 HC.out (by simp [newS]) (by omega) HOd.out (HRd.out _ HB6.out) (HFd.out _ HG6.out) HS6.out).mono ?_
    rintro e w7 ⟨G7, rfl, hs7, hst7⟩
    rw [HEQ.out] at hs7 ⊢
    try dsimp only at hs7 ⊢
    have HS7 := Lib.hid hs7
    have hbase7 := hst7.base HB6.out.size HG6.out
    have HB7 := Lib.hid (HB6.out.trans hbase7.1)
    have HG7 := Lib.hid hbase7.2
    clear hs7 hst7 hbase7
    go_wp2_with fail
    refine (scommit_any p 3 c v (oneT 1 c v su d) _ w7 HC.out (by simp [oneT]) (by omega) HS7.out).mono ?_
    rintro e w8 ⟨G8, rfl, hs8, hst8⟩
    rw [oneT_cmt HNM.out] at hs8 ⊢
    try dsimp only at hs8 ⊢
    have HS8 := Lib.hid hs8
    have hbase8 := hst8.base HB7.out.size HG7.out
    have HB8 := Lib.hid (HB7.out.trans hbase8.1)
    have HG8 := Lib.hid hbase8.2
    clear hs8 hst8 hbase8
    go_wp2_with fail
    refine (slen_any p 4 _ _ w8 HS8.out).mono ?_
    rintro e w8b ⟨rfl, rfl⟩
    rw [show (one 1 c v su d).l.length = 1 from rfl]
    go_wp2_with fail
    refine (swipe_any p 4 _ _ w8 HS8.out).mono ?_
    rintro e w9 ⟨G9, rfl, hs9, hst9⟩
    have HS9 := Lib.hid hs9
    have hbase9 := hst9.base HB8.out.size HG8.out
    have HB9 := Lib.hid (HB8.out.trans hbase9.1)
    have HG9 := Lib.hid hbase9.2
    clear hs9 hst9 hbase9
    go_wp2_with fail
    refine (sread_any p 4 c _ _ w9 HC.out HOK1.out.wipe HS9.out).mono ?_
    rintro e w10 ⟨v10, rfl, ho10, hb10⟩
    rw [wipe_read] at ho10 ⊢
    try dsimp only at ho10 ⊢
    obtain ⟨A10, cap10, e10⟩ := ho10.slice_
    subst e10
    have HB10 := Lib.hid (HB9.out.trans (hb10.mono HB9.out.size))
    have HG10 := HG9
    have HS10 := Lib.hid (HS9.out.below_ hb10)
    clear ho10 hb10
    go_wp2_with (first
      | (go_at_call 26; refine (slen_any p 4 _ _ w10 HS10.out).mono ?_; rintro e w11 ⟨rfl, rfl⟩; rw [show (wipeS (one 1 c v su d)).l.length = 0 from rfl])
      | (go_at_call 24; refine (sreport_any p 4 _ _ w10 (by simp [wipeS]) HS10.out).mono ?_; rintro e w12 ⟨v12, rfl, ho12, hb12⟩; rw [show rstR (wipeS (one 1 c v su d)).l = [] from rfl] at ho12; obtain ⟨A12, cap12, e12⟩ := ho12.slice_; subst e12; have HB12 := Lib.hid (HB10.out.trans (hb12.mono HB10.out.size)); clear ho12 hb12; simp only [List.length_nil]))
    go_ret
    exact ⟨rfl, HB12.out⟩
  · rw [hst] at hs4
    have HS4 := Lib.hid hs4
    obtain ⟨e0, he0⟩ : ∃ x, (bgnS (newS 1) c v su d).1 = x := ⟨_, rfl⟩
    rw [he0] at hne ⊢
    have hne' : (e0 != 0) = true := by simpa using hne
    clear hs4 hst he0 hne
    go_wp2_with fail
    refine (slen_any p 1 _ _ w4 HS4.out).mono ?_
    rintro e w5 ⟨rfl, rfl⟩
    rw [show (newS 1).l.length = 0 from rfl]
    go_wp2_with fail
    go_ret
    exact ⟨rfl, HB4.out⟩

end Go.Proofs.Ytncgpojjibojlaa
