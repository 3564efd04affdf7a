/- sutureref16.Many: its contract. -/
import Derived.Test.YthmifcbhbcjeiaaRef16B
namespace Go.Proofs.Ythmifcbhbcjeiaa
open Go Go.RowKit

set_option maxHeartbeats 2000000 in
set_option maxRecDepth 100000 in
theorem rmany_any (v va vd vh : Value) (l : List Nq) (al : List Int) (ld : List Ld) (ho : List Int) (n : Int) (w : World) (hl : l.length ≤ 100) (hld : ld.length ≤ 100) (hho : ho.length ≤ 100) (hwf : okW l) (hp : posD ld)
    (hR : Rd w 4 v l.length (l.flatMap noC)) (hA : Rd w 1 va al.length (al.flatMap inC)) (hD : Rd w 2 vd ld.length (ld.flatMap ldC)) (hH : Rd w 1 vh ho.length (ho.flatMap inC)) :
    Calls Try.prog 38 #[v, va, vd, vh, .int .i64 n] w (FreshI (manyF l al n.toNat ld ho) w) := by
  have HR := Lib.hid hR
  have HA := Lib.hid hA
  have HD := Lib.hid hD
  have HH := Lib.hid hH
  have HP := Lib.hid hp
  have HW := Lib.hid hwf
  clear hR hA hD hH hp hwf
  go_enter Try.func38, Try.ntmps38
  obtain ⟨Ah0, caph0, hvh0, _, _⟩ := HH.out.shape
  subst hvh0
  go_wp2_with (at_builtin; refine wpList_app_in2 rfl (.const (.slice none 0 0)) (.tmp 15) rfl w.heap.size (.slice none 0 0) [] rfl (Own.nil_ _ _ _ _) (.slice Ah0 ho.length caph0) ho rfl HH.out (by simp; omega) (Nat.le_refl _) ?_; intro v1 w1 hown1 _ _ hb1; have HO1 := Lib.hid hown1; have HB1 := Lib.hid hb1; clear hown1 hb1)
  go_loopw [2, 11, 12] (fun s2 s11 s12 => ManyR l al ld ho n w s2 s12 s11) (fun _ s11 _ _ => l.length - lenV s11)
  case atStart => exact ⟨[], ho, ld, Own.nil_ _ _ _ _, (by simpa using HO1.out), (fun g hg => by simp [blk] at hg), LdS.of_rd HD.out HB1.out, HB1.out, HP.out, by simp, by simpa using freeN_le l ho, by simp, by simp⟩
  case round =>
    obtain ⟨td, hs, ld', hot, hoh, hsp, hls, hbel, hpd, hmf, hfr, hlh, hll⟩ := hrel
    obtain ⟨At, capt, et⟩ := hot.slice_
    obtain ⟨Ah, caph, eh⟩ := hoh.slice_
    obtain ⟨Ad, capd, ed, _, _⟩ := hls.1.shape
    subst et eh ed
    have HOT := Lib.hid hot
    have HOH := Lib.hid hoh
    have HSP := Lib.hid hsp
    have HLS := Lib.hid hls
    have HB := Lib.hid hbel
    have HPD := Lib.hid hpd
    have HMF := Lib.hid hmf
    have HLH := Lib.hid hlh
    have HLL := Lib.hid hll
    have hsz := hbel.size
    clear hot hoh hsp hls hbel hpd hmf hlh hll
    by_cases hlt : (td.length : Int) < n
    · go_wp2_with fail
      refine (rtarget_any v va _ _ l al ld' hs wr (by omega) (HR.out.below HB.out (Nat.le_refl _)) (HA.out.below HB.out (Nat.le_refl _)) HLS.out.1 HOH.out.rd).mono ?_
      rintro e w2 ⟨rfl, hb2⟩
      have HB2 := Lib.hid hb2
      have hs2 := hb2.size
      clear hb2
      obtain ⟨o, hoo⟩ : ∃ o, tgtL l al ld' hs = o := ⟨_, rfl⟩
      rw [hoo]
      have HT := Lib.hid hoo
      clear hoo
      cases o with
      | none =>
        simp only [idO, Option.map_none, Option.getD_none, Option.isSome_none]
        go_wp2_with fail
        go_ret
        refine ⟨_, rfl, ?_, below_then HB.out HB2.out⟩
        rw [← manyR_stop (.inr HT.out) HMF.out]
        exact HOT.out.below HB2.out (Nat.le_refl _)
      | some a =>
        have hf1 := tgtL_free HT.out
        have hlo := tgtL_load HT.out
        have hl0 := load_nn HPD.out a.1
        have HST := Lib.hid (manyR_step hlt HT.out HMF.out)
        obtain ⟨t, ht⟩ : ∃ t, a.1 = t := ⟨_, rfl⟩
        rw [ht] at hf1 hlo hl0 HST
        rw [show idO (some a) = t from ht]
        simp only [Option.isSome_some]
        clear ht HT HMF
        have HOT2 := Lib.hid (HOT.out.below HB2.out (Nat.le_refl _))
        have HOH2 := Lib.hid (HOH.out.below HB2.out (Nat.le_refl _))
        have HLS2 := Lib.hid (HLS.out.fr (S := fun _ => False) (Fr.of_below HB2.out) hsz (fun g h => h.elim))
        have HBW2 := Lib.hid (below_then HB.out HB2.out)
        have hsz2 := HBW2.out.size
        clear HOT HOH HLS HB HB2
        go_wp2_with (first
          | (at_builtin; refine wpList_app_in2 rfl (.tmp 31) (.tmp 33) rfl w.heap.size (.slice At td.length capt) td rfl (HOT2.out.alloc _) (.slice (some ⟨w2.heap.size, 0, none⟩) 1 1) [t] rfl (rd_one (t := 3) (heap_alloc_new _ _) rfl) (by simp; omega) (by simp; omega) ?_; intro vt3 w3 hown3 hfr3 hbk3 hb3; have HO3 := Lib.hid hown3; have HF3 := Lib.hid hfr3; have HK3 := Lib.hid hbk3; have HB3 := Lib.hid hb3; have hs3 := hb3.size; have HOH3 := Lib.hid ((HOH2.out.alloc (.cells #[.int .i64 t] 3)).fr hfr3 (fun g hg hg2 => HSP.out g hg2 hg)); clear hown3 hfr3 hbk3 hb3)
          | (at_builtin; refine wpList_app_in2 rfl (.tmp 35) (.tmp 37) rfl w.heap.size (.slice Ah hs.length caph) hs rfl (HOH3.out.alloc _) (.slice (some ⟨w3.heap.size, 0, none⟩) 1 1) [t] rfl (rd_one (t := 3) (heap_alloc_new _ _) rfl) (by have := HLH.out; simp; omega) (by simp at hs3; simp; omega) ?_; intro vh4 w4 hown4 hfr4 hbk4 hb4; have HO4 := Lib.hid hown4; have HF4 := Lib.hid hfr4; have HK4 := Lib.hid hbk4; have HB4 := Lib.hid hb4; have hs4 := hb4.size; clear hown4 hfr4 hbk4 hb4))
        have hsp1 : Sep vt3 (.slice Ah hs.length caph) := sep_two (w1 := w2.alloc (.cells #[.int .i64 t] 3)) (w3 := w3) HOT2.out HOH2.out HSP.out (by simp) HO3.out HK3.out (Nat.le_refl _) (.inl rfl)
        have hsp2 : Sep vt3 vh4 := sep_two (w1 := w2.alloc (.cells #[.int .i64 t] 3)) (w3 := w3.alloc (.cells #[.int .i64 t] 3)) HOT2.out HOH2.out HSP.out (by simp) HO3.out HK3.out (by simp) HK4.out
        have hot4 := (HO3.out.alloc (.cells #[.int .i64 t] 3)).fr HF4.out (fun g hg hg2 => hsp1 g hg hg2)
        have hls3 := (HLS2.out.fr (Fr.alloc w2 (.cells #[.int .i64 t] 3) (fun _ => False)) hsz2 (fun g h => h.elim)).fr HF3.out (by simp; omega) (fun g hg => ⟨(HOT2.out.blk_lt hg).1, (HOT2.out.alloc _).blk_elem hg⟩)
        have hls4 := (hls3.fr (Fr.alloc w3 (.cells #[.int .i64 t] 3) (fun _ => False)) (by simp at hs3; omega) (fun g h => h.elim)).fr HF4.out (by simp at hs3; simp; omega) (fun g hg => ⟨(HOH3.out.blk_lt hg).1, (HOH3.out.alloc _).blk_elem hg⟩)
        have hbw4 : Below w.heap.size w w4 := HBW2.out.trans (((below_one w2 (.cells #[.int .i64 t] 3)).mono hsz2).trans (HB3.out.trans (((below_one w3 (.cells #[.int .i64 t] 3)).mono (by simp at hs3; omega)).trans HB4.out)))
        have HSP4 := Lib.hid hsp2
        have HOT4 := Lib.hid hot4
        have HLS4 := Lib.hid hls4
        have HBW4 := Lib.hid hbw4
        have hsz4 := hbw4.size
        clear hsp1 hsp2 hot4 hls3 hls4 hbw4 HOT2 HOH2 HLS2 HBW2 HO3 HF3 HK3 HB3 HOH3 HF4 HK4 HB4 hs3 hs4 hsz2 hs2 HSP
        refine (rmore_any _ ld' t w4 (by have := HLL.out; omega) hl0 (by omega) HLS4.out.1).mono ?_
        rintro e w7 ⟨v7, rfl, ho7, hb47⟩
        have HO7 : Hid (LdS w7 w.heap.size v7 (moreD ld' t)) := LdS.of_own ho7
        have HB47 := Lib.hid hb47
        clear ho7 hb47
        go_wp2_with fail
        go_roundw
        case rel => exact ⟨td ++ [t], hs ++ [t], moreD ld' t, HOT4.out.below HB47.out (Nat.le_refl _), HO4.out.below HB47.out (Nat.le_refl _), HSP4.out, HO7.out, below_then HBW4.out HB47.out, posD_more HPD.out t, HST.out, by simp; omega, by have := HLH.out; simp; omega, by have := HLL.out; rw [moreD_len]; simp; omega⟩
        case measure =>
          obtain ⟨A4, c4, e4⟩ := HOT4.out.slice_
          rw [e4]
          simp [lenV]
          omega
    · go_wp2_with fail
      go_ret
      refine ⟨_, rfl, ?_, HB.out⟩
      rw [← manyR_stop (.inl (by omega)) HMF.out]
      exact HOT.out

end Go.Proofs.Ythmifcbhbcjeiaa
