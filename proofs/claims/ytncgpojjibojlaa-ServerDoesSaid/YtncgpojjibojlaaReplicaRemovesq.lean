/- ReplicaRemoves: the walk. -/
import Derived.Test.YtncgpojjibojlaaReLq
import Derived.Test.YtncgpojjibojlaaReO4q
import Derived.Test.YtncgpojjibojlaaAwake10q
import Derived.Test.YtncgpojjibojlaaSameReq
import Derived.Deep.RegionHeld3
namespace Go.Proofs.Ytncgpojjibojlaa
open Go Go.RowKit

theorem rdN {w : World} {A : Option Addr} {cap n size : Nat} {α : Type} {l : List α} {xs : List Value} (hn : l.length = n) (h : Rd w size (.slice A l.length cap) l.length xs) : Rd w size (.slice A n cap) l.length xs := by
  subst hn
  exact h
def lfR (c : Int) (l : List Re) : List Re := l.filter (fun z => !(z.1 == c) || z.2.2.2.1)
theorem lfR_snoc (c : Int) (l : List Re) (x : Re) : lfR c (l ++ [x]) = lfR c l ++ (if !(x.1 == c) || x.2.2.2.1 then [x] else []) := by
  unfold lfR
  rw [List.filter_append]
  congr 1
  cases h : (!(x.1 == c) || x.2.2.2.1) <;> simp [h]
theorem lfR_len (c : Int) (l : List Re) : (lfR c l).length ≤ l.length := List.length_filter_le _ _
theorem flat_one5 (x : Re) : [x].flatMap reC = reC x := by simp
theorem rmvR_len (l : List Re) (c : Int) : (rmvR l c).2.length ≤ l.length := by
  have := fairR_len l
  unfold rmvR
  split
  · have h2 : ((fairR l).filter (fun z => !(z.1 == c && !z.2.2.2.1))).length ≤ (fairR l).length := List.length_filter_le _ _
    simp only
    omega
  · simp
theorem rmvR_zero {l : List Re} {c : Int} (h : (rmvR l c).1 = 0) : rmvR l c = (0, (rmvR l c).2) := by rw [← h]

set_option maxHeartbeats 4000000 in
set_option maxRecDepth 100000 in
theorem replicaRemoves_walk (v : Value) (l : List Re) (c : Int) (W : World) (hR : Rd W 5 v l.length (l.flatMap reC)) :
    Calls Try.prog 7 #[v, .int .i64 c] W fun e w' => e = .returned (.bool true) ∧ Below W.heap.size W w' := by
  obtain ⟨ii, hii, hz0, hz1, hz2⟩ := info_parts info_re
  obtain ⟨A, cap, hv, _, hnc⟩ := hR.shape
  subst hv
  have HR := Lib.hid hR
  clear hR
  obtain ⟨n, hn⟩ : ∃ n, l.length = n := ⟨_, rfl⟩
  have HN := Lib.hid hn
  rw [hn] at HR hnc ⊢
  clear hn
  have HRD : Hid (∀ w', Below W.heap.size W w' → Rd w' 5 (.slice A n cap) l.length (l.flatMap reC)) := fun w' hb => by have := HR.out.below hb (Nat.le_refl _); rw [HN.out]; exact this
  go_enter Try.func7, Try.ntmps7
  go_wp2_with fail
  refine (awake10 W).mono ?_
  rintro e w1 ⟨rfl, hb1⟩
  have HB1 := Lib.hid hb1
  clear hb1
  by_cases hn : 100 < n
  · have hni : (n : Int) > 100 := by omega
    go_wp2_with fail
    go_ret
    exact ⟨rfl, HB1.out⟩
  have hni : ¬ ((n : Int) > 100) := by omega
  have hll : l.length ≤ 100 := by have := HN.out; omega
  go_wp2_with fail
  refine (mayR_any _ l w1 (HRD.out _ HB1.out)).mono ?_
  rintro e w2 ⟨rfl, hb2⟩
  have HB2 := Lib.hid (below_then HB1.out hb2)
  clear hb2
  obtain ⟨b, hb⟩ : ∃ b, mayR l = b := ⟨_, rfl⟩
  rw [hb]
  have HM := Lib.hid hb
  clear hb
  cases b with
  | false =>
    go_wp2_with fail
    go_ret
    exact ⟨rfl, HB2.out⟩
  | true =>
    go_wp2_with fail
    refine (remove_any _ l c w2 (by omega) (HRD.out _ HB2.out)).mono ?_
    rintro e w3 ⟨v3, rfl, ho3, hb3⟩
    have hbad := fun h => rmvR_bad (l := l) (c := c) h
    have hml := rmvR_len l c
    obtain ⟨⟨a, m⟩, hm⟩ : ∃ p, rmvR l c = p := ⟨_, rfl⟩
    rw [hm] at ho3 hbad hml ⊢
    dsimp only at ho3 hbad hml ⊢
    have HRM := Lib.hid hm
    obtain ⟨A3, cap3, hv3⟩ := ho3.slice_
    subst hv3
    have HO3 := Lib.hid ho3.rd
    have HB3 := Lib.hid (below_then HB2.out hb3)
    obtain ⟨nm, hnm⟩ : ∃ k, m.length = k := ⟨_, rfl⟩
    rw [hnm] at hml ⊢
    have HNM := Lib.hid hnm
    have HBAD : Hid (a ≠ 0 → nm = 0) := fun h => by rw [← hnm, hbad h]; rfl
    have hnm63 : nm ≤ 9223372036854775807 := by omega
    clear hm ho3 hb3 hnm hbad
    by_cases ha : a = 0
    · subst ha
      have hrl := removes_law HM.out HRM.out
      have HRL1 := Lib.hid hrl.1
      have HRL2 : Hid (m = lfR c l) := hrl.2.1
      have HRL3 := Lib.hid hrl.2.2
      clear hrl HBAD
      go_wp2_with fail
      refine (remove_any _ m c w3 (by have := HNM.out; omega) (rdN HNM.out HO3.out)).mono ?_
      rintro e w4 ⟨v4, rfl, ho4, hb4⟩
      rw [HRL1.out]
      have HB4 := Lib.hid (below_then HB3.out hb4)
      have HO4 := Lib.hid (HO3.out.below hb4 (Nat.le_refl _))
      clear ho4 hb4
      go_wp2_with fail
      go_loopw [10, 11] (fun s10 s11 wr => ∃ k : Nat, k ≤ n ∧ s11 = .int .i64 k ∧ Own wr w4.heap.size 52 5 s10 (lfR c (l.take k)).length ((lfR c (l.take k)).flatMap reC) ∧ Below w4.heap.size w4 wr) (fun _ s11 _ => n - (intOf s11).toNat)
      case atStart => exact ⟨0, Nat.zero_le _, rfl, by rw [List.take_zero]; exact Own.nil_ _ _ _ _, Below.refl _ _⟩
      case round =>
        obtain ⟨k, hk, rfl, hown, hbel⟩ := hrel
        obtain ⟨A5, cap5, hv5⟩ := hown.slice_
        subst hv5
        have HO := Lib.hid hown
        have HB := Lib.hid hbel
        have hsr := hbel.size
        have hql : (lfR c (l.take k)).length ≤ k := Nat.le_trans (lfR_len _ _) (by rw [List.length_take]; omega)
        obtain ⟨q, hq⟩ : ∃ q, lfR c (l.take k) = q := ⟨_, rfl⟩
        have HQ := Lib.hid hq
        rw [hq] at hql HO ⊢
        clear hown hbel hq
        by_cases hlt : k < n
        · have hltI : (k : Int) < (n : Int) := by omega
          have hR1 := HRD.out _ (below_then HB4.out HB.out)
          rw [HN.out] at hR1
          obtain ⟨b, off, hA, hbl⟩ := hR1.addr (by omega)
          subst hA
          obtain ⟨c0, c1, c2, c3, c4⟩ := rd_re hR1 k (by rw [HN.out]; exact hlt)
          obtain ⟨x, hx⟩ : ∃ x, at_ l k = x := ⟨_, rfl⟩
          rw [hx] at c0 c1 c2 c3 c4
          have HX : Hid (lfR c (l.take (k + 1)) = q ++ (if !(x.1 == c) || x.2.2.2.1 then [x] else [])) := by rw [take_at (by rw [HN.out]; exact hlt), hx, lfR_snoc, HQ.out]; exact rfl
          clear hx hR1
          obtain ⟨x0, x1, x2, x3, x4⟩ := x
          simp only at c0 c1 c2 c3 c4 HX
          by_cases hs : x0 = c
          · subst hs
            cases x3 with
            | false =>
              have hxf : lfR x0 (l.take (k + 1)) = q := by have := HX.out; simpa using this
              have HXF := Lib.hid hxf
              clear HX hxf
              go_wp2_with fail
              go_roundw
              case rel =>
                refine ⟨k + 1, by omega, by go_num, ?_, HB.out⟩
                rw [HXF.out]
                exact HO.out
              case measure => simp [intOf]; omega
            | true =>
              have hxf : lfR x0 (l.take (k + 1)) = q ++ [(x0, x1, x2, true, x4)] := by have := HX.out; simpa using this
              have HXT := Lib.hid hxf
              clear HX hxf
              go_wp2_with (at_builtin; refine wpList_append_seg rfl _ _ 41 rfl w4.heap.size 52 ii _ 5 24 (by kernel_rfl) hii hz0 hz1 hz2 rfl (by omega) (.slice A5 q.length cap5) q.length (q.flatMap reC) rfl (HO.out.alloc _) (.slice (some ⟨wr.heap.size, 0, none⟩) 1 1) 1 (reC (x0, x1, x2, true, x4)) rfl (rd_row10 (Bx.new wr 52 (reC (x0, x1, x2, true, x4))) rfl (by omega)) (fun u hu => reC_one [(x0, x1, x2, true, x4)] u (by rw [flat_one5]; exact hu)) (by unfold maxLen; omega) (by omega) (by simp; omega) ?_; intro v4 w4' hown4 hfr4 hb4 _; have HN4 := Lib.hid hown4; have HF4 := Lib.hid (hfr4.below (B := w4.heap.size) (by simp; omega) (fun k hk => (HO.out.blk_lt hk).1)); clear hown4 hfr4 hb4)
              go_roundw
              case rel =>
                refine ⟨k + 1, by omega, by go_num, ?_, (HB.out.alloc hsr _).trans HF4.out⟩
                rw [HXT.out]
                simp only [List.length_append, List.flatMap_append, flat_one5]
                exact HN4.out
              case measure => simp [intOf]; omega
          · have hs' : (x0 != c) = true := by simpa using hs
            have HXT : Hid (lfR c (l.take (k + 1)) = q ++ [(x0, x1, x2, x3, x4)]) := by
              have h1 := HX.out
              have h2 : (x0 == c) = false := by simpa using hs
              rw [h2] at h1
              exact h1
            clear HX hs
            go_wp2_with (at_builtin; refine wpList_append_seg rfl _ _ 41 rfl w4.heap.size 52 ii _ 5 24 (by kernel_rfl) hii hz0 hz1 hz2 rfl (by omega) (.slice A5 q.length cap5) q.length (q.flatMap reC) rfl (HO.out.alloc _) (.slice (some ⟨wr.heap.size, 0, none⟩) 1 1) 1 (reC (x0, x1, x2, x3, x4)) rfl (rd_row10 (Bx.new wr 52 (reC (x0, x1, x2, x3, x4))) rfl (by omega)) (fun u hu => reC_one [(x0, x1, x2, x3, x4)] u (by rw [flat_one5]; exact hu)) (by unfold maxLen; omega) (by omega) (by simp; omega) ?_; intro v4 w4' hown4 hfr4 hb4 _; have HN4 := Lib.hid hown4; have HF4 := Lib.hid (hfr4.below (B := w4.heap.size) (by simp; omega) (fun k hk => (HO.out.blk_lt hk).1)); clear hown4 hfr4 hb4)
            go_roundw
            case rel =>
              refine ⟨k + 1, by omega, by go_num, ?_, (HB.out.alloc hsr _).trans HF4.out⟩
              rw [HXT.out]
              simp only [List.length_append, List.flatMap_append, flat_one5]
              exact HN4.out
            case measure => simp [intOf]; omega
        · obtain rfl : k = n := by omega
          have HQL : Hid (lfR c l = q) := by have := HQ.out; rw [← HN.out, List.take_length] at this; exact this
          go_wp2_with fail
          refine (same_re _ _ m q wr (rdN HNM.out (HO4.out.below HB.out (Nat.le_refl _))) HO.out.rd).mono ?_
          rintro e w6 ⟨rfl, hb6⟩
          rw [decide_eq_true (HRL2.out.trans HQL.out)]
          have HO6 := Lib.hid ((HO4.out.below HB.out (Nat.le_refl _)).below hb6 (Nat.le_refl _))
          have HB6 := Lib.hid (below_then (below_then HB4.out HB.out) hb6)
          clear hb6
          go_wp2_with fail
          refine (mayR_any _ m w6 (rdN HNM.out HO6.out)).mono ?_
          rintro e w7 ⟨rfl, hb7⟩
          rw [HRL3.out]
          have HB7 := Lib.hid (below_then HB6.out hb7)
          clear hb7
          go_wp2_with fail
          go_ret
          exact ⟨rfl, HB7.out⟩
    · have hz := HBAD.out ha
      subst hz
      go_wp2_with fail
      go_ret
      exact ⟨rfl, HB3.out⟩

end Go.Proofs.Ytncgpojjibojlaa
