/- QueueRuns: the walk. -/
import Derived.Test.YtflndnbjdhbppaaSorted
namespace Go.Proofs.Ytflndnbjdhbppaa
open Go Go.RowKit

def RunsR (W : World) (B n : Nat) (s5 s6 : Value) (wr : World) : Prop :=
  ∃ (k : Nat) (vq : Value) (d h : List Nd), s6 = .int .i64 k ∧ k ≤ n ∧ d.length ≤ k ∧ QAt wr B B vq d ∧ Own wr W.heap.size 27 3 s5 h.length (h.flatMap ndC) ∧ d.Perm h ∧ (∀ g, blk s5 = some g → g ≠ B ∧ blk vq ≠ some g) ∧ Below W.heap.size W wr

set_option maxHeartbeats 8000000 in
set_option maxRecDepth 100000 in
theorem queueRuns_walk (v : Value) (l : List Nd) (W : World) (hR : Rd W 3 v l.length (l.flatMap ndC)) :
    Calls Try.prog 3 #[v] W fun e w' => e = .returned (.bool true) ∧ Below W.heap.size W w' := by
  obtain ⟨ii, hii, hz0, hz1, hz2⟩ := info_parts infoNeed
  obtain ⟨_, A, cap, rfl, hnc, hcm, _⟩ := id hR
  obtain ⟨n, hn⟩ : ∃ n, l.length = n := ⟨_, rfl⟩
  have HR := Lib.hid hR
  have HN := Lib.hid hn
  have hnm : n ≤ 9223372036854775807 := by unfold maxLen at hcm; omega
  rw [hn]
  clear hR hn hnc hcm
  go_enter Try.func3, Try.ntmps3
  go_wp2_with fail
  refine (awake17 _).mono ?_
  rintro e w1 ⟨rfl, hb1⟩
  go_wp2_with fail
  refine (new_any w1).mono ?_
  rintro e w2 ⟨rfl, hq2, hb2⟩
  obtain ⟨B, hB⟩ : ∃ B, w1.heap.size = B := ⟨_, rfl⟩
  have HB2 := Lib.hid (below_then hb1 hb2)
  have hWB : W.heap.size ≤ B := by have := hb1.size; omega
  rw [hB] at hq2 ⊢
  have HQ2 := Lib.hid hq2
  clear hb1 hb2 hq2 hB
  by_cases hlen : n ≤ 200
  · have hlen' : ¬ (200 : Int) < (n : Int) := by omega
    go_wp2_with fail
    go_loopw [5, 6] (RunsR W B n) (fun _ s6 _ => n - (intOf s6).toNat)
    case atStart => exact ⟨0, _, [], [], rfl, by omega, by simp, HQ2.out, Own.nil_ _ _ _ _, List.Perm.refl _, fun g hg => by simp [blk] at hg, HB2.out⟩
    case round =>
      obtain ⟨k, vq, d, h, rfl, hk, hdk, hq, hown, hp, hne, hbel⟩ := hrel
      obtain ⟨Ah, caph, hvh⟩ := hown.slice_
      subst hvh
      have hdh := hp.length_eq
      have HQ := Lib.hid hq
      have HO := Lib.hid hown
      have HP := Lib.hid hp
      have HNE := Lib.hid hne
      have HBL := Lib.hid hbel
      have HDH := Lib.hid hdh
      have hBr := hq.1.lt
      have hWr := hbel.size
      have hh200 : h.length ≤ 200 := by omega
      clear hq hown hp hne hbel hdh
      by_cases hlt : k < n
      · have hltI : (k : Int) < (n : Int) := by omega
        have hR1 := HR.out.below HBL.out (Nat.le_refl _)
        obtain ⟨b, off, cap', hv, _, _, hbl, _⟩ := hR1.form (by rw [HN.out]; omega)
        injection hv with hv1 hv2 hv3
        subst hv1 hv3
        obtain ⟨c0, c1, c2⟩ := rd_el hR1 k (by rw [HN.out]; exact hlt)
        obtain ⟨x, hx⟩ : ∃ x, gt l k = x := ⟨_, rfl⟩
        rw [hx] at c0 c1 c2
        obtain ⟨x0, x1, x2⟩ := x
        simp only at c0 c1 c2
        have HX := Lib.hid hx
        clear hx hR1 hv2 hbl
        by_cases hneg : 0 ≤ x0
        · go_wp2_with fail
          refine (put_any wr B B vq d (x0, x1, x2) HQ.out (by omega)).mono ?_
          rintro e w3 ⟨rfl, v', d', hq', hp', hf', hk'⟩
          have hbw : Below W.heap.size wr w3 := hf'.below hWr (fun i hi => by
            rcases hi with hi | hi
            · omega
            · have := (HQ.out.1.own.blk_lt hi).1; omega)
          have HBL3 := Lib.hid (HBL.out.trans hbw)
          have hR3 := HR.out.below HBL3.out (Nat.le_refl _)
          obtain ⟨d0, d1, d2⟩ := rd_el hR3 k (by rw [HN.out]; exact hlt)
          rw [HX.out] at d0 d1 d2
          simp only at d0 d1 d2
          have HO3 := Lib.hid (HO.out.fr hf' (fun g hg e => by
            rcases e with e | e
            · exact (HNE.out g hg).1 e
            · exact (HNE.out g hg).2 e))
          have HNE3 : Hid (∀ g, blk (.slice Ah h.length caph) = some g → g ≠ B ∧ blk v' ≠ some g) := fun g hg => ⟨(HNE.out g hg).1, fun e => by
            rcases hk' with h1 | ⟨k1, h1, h2⟩
            · exact (HNE.out g hg).2 (h1.symm.trans e)
            · have := (HO.out.blk_lt hg).2
              rw [h1] at e
              injection e with e
              omega⟩
          have hW3 : W.heap.size ≤ w3.heap.size := by have := hf'.size; omega
          have HQ3 := Lib.hid hq'
          have HP3 := Lib.hid hp'
          clear hq' hp' hf' hk' hbw hR3 c0 c1 c2
          go_wp2_with (first
            | (at_builtin; refine wpList_append_seg rfl (.tmp 46) (.tmp 51) 22 rfl W.heap.size 27 ii _ 3 24 (by kernel_rfl) hii hz0 hz1 hz2 rfl (by omega) (.slice Ah h.length caph) h.length (h.flatMap ndC) rfl (HO3.out.alloc _) (.slice (some ⟨w3.heap.size, 0, none⟩) 1 1) 1 (ndC (x0, x1, x2)) rfl (rd_one (t := 27) (heap_alloc_new _ _) rfl) (by simp [ndC, Value.oneCell']) (by unfold maxLen; omega) (by omega) (by simp; try omega) ?_; intro v5 w5 hown5 hfr5 hb5 _; obtain ⟨A5, c5, hv5⟩ := hown5.slice_; subst hv5; have HN5 := Lib.hid (And.intro hown5 (And.intro hfr5 hb5)); clear hown5 hfr5 hb5))
          obtain ⟨o5, f5, k5⟩ := HN5.out
          have hQ5 : QAt w5 B B v' d' := ⟨(HQ3.out.1.below ((Below.refl _ _).alloc (Nat.le_refl _) _)).fr f5 (fun e => (HNE3.out B e).1 rfl) (fun g hg e => (HNE3.out g e).2 hg), HQ3.out.2⟩
          have hl' : d'.length = h.length + 1 := by rw [HP3.out.length_eq, List.length_cons, HDH.out]
          refine (len_any w5 B B v' d' hQ5.1 (by omega)).mono ?_
          rintro e w' ⟨rfl, rfl⟩
          rw [hl']
          have HQ5 := Lib.hid hQ5
          have HL5 := Lib.hid hl'
          clear hQ5 hl' o5 f5 k5 d0 d1 d2
          go_wp2_with fail
          go_roundw
          case rel =>
            obtain ⟨o5, f5, k5⟩ := HN5.out
            refine ⟨k + 1, v', d', h ++ [(x0, x1, x2)], by go_num, by omega, by have := HL5.out; have := HDH.out; omega, HQ5.out, ?_, ?_, ?_, ?_⟩
            · rw [List.length_append, List.flatMap_append, flat_one]
              exact o5
            · exact HP3.out.trans ((List.Perm.cons _ HP.out).trans (List.perm_append_comm (l₁ := [(x0, x1, x2)])))
            · intro g hg
              rcases k5 with h1 | h1
              · exact HNE3.out g (h1.symm.trans hg)
              · rw [h1] at hg
                injection hg with hg
                have hB3 := HQ3.out.1.lt
                refine ⟨by simp at hg; omega, fun e => ?_⟩
                have := (HQ3.out.1.own.blk_lt e).2
                simp at hg
                omega
            · exact (HBL3.out.alloc hW3 _).trans (f5.below (by simp; omega) (fun g hg => (HO3.out.blk_lt hg).1))
          case measure => simp [intOf]; omega
        · have hneg' : ¬ (0 : Int) ≤ x0 := hneg
          go_wp2_with fail
          by_cases hd0 : d = []
          · subst hd0
            have hh0 : h = [] := List.eq_nil_of_length_eq_zero (by rw [← HDH.out]; rfl)
            subst hh0
            refine (take_none wr B B vq HQ.out.1).mono ?_
            rintro e w3 ⟨rfl, hb3⟩
            have hal : Below w3.heap.size w3 (w3.alloc (.cells #[.int .i64 0, .int .i64 0, .int .i64 0] 27)) := (Below.refl _ _).alloc (Nat.le_refl _) _
            have h34 := below_then hb3 hal
            have HB4 := Lib.hid h34
            clear hb3 hal h34 c0 c1 c2
            simp only [List.length_nil]
            go_wp2_with fail
            refine (sorted_any _ [] _ (by simp) (by exact ((HO.out.below HB4.out (Nat.le_refl _)).rd))).mono ?_
            rintro e w5 ⟨v5, s5, rfl, hp5, hs5, ho5, hb5⟩
            obtain rfl : s5 = [] := List.Perm.eq_nil hp5
            obtain ⟨A5, c5, hv5⟩ := ho5.slice_
            subst hv5
            have HB5 := Lib.hid (below_then HB4.out hb5)
            clear hp5 hs5 ho5 hb5
            simp only [List.length_nil]
            go_wp2_with fail
            go_quiet (fail)
            go_wp2_with fail
            have hQ5 : QAt (w5.drewN nq) B B vq [] := ⟨(HQ.out.1.below HB5.out).below (below_drewN (Below.refl _ _) nq), HQ.out.2⟩
            refine (len_any _ B B vq [] hQ5.1 (by simp)).mono ?_
            rintro e w' ⟨rfl, rfl⟩
            have HQ5 := Lib.hid hQ5
            clear hQ5
            simp only [List.length_nil]
            go_wp2_with fail
            go_roundw
            case rel => exact ⟨k + 1, vq, [], [], by go_num, by omega, by simp, HQ5.out, ((HO.out.below HB5.out (Nat.le_refl _)).drewN nq), List.Perm.refl _, HNE.out, below_drewN (HBL.out.trans (HB5.out.mono hWr)) _⟩
            case measure => simp [intOf]; omega
          · have hdl : 0 < d.length := List.length_pos_iff.2 hd0
            refine (take_some wr B B vq d HQ.out (by omega) hdl).mono ?_
            rintro e w3 ⟨rfl, v', d', hq', hp', hf', hk'⟩
            obtain ⟨y, hy⟩ : ∃ y, gt d 0 = y := ⟨_, rfl⟩
            have hbw : Below W.heap.size wr w3 := hf'.below hWr (fun i hi => by
              rcases hi with hi | hi
              · omega
              · have := (HQ.out.1.own.blk_lt hi).1; omega)
            have hO3 := HO.out.fr hf' (fun g hg e => by
              rcases e with e | e
              · exact (HNE.out g hg).1 e
              · exact (HNE.out g hg).2 e)
            rw [hy]
            obtain ⟨y0, y1, y2⟩ := y
            simp only
            have hal : Below w3.heap.size w3 (w3.alloc (.cells #[.int .i64 y0, .int .i64 y1, .int .i64 y2] 27)) := (Below.refl _ _).alloc (Nat.le_refl _) _
            have hmn : ∀ z ∈ d, ¬ nlt z (y0, y1, y2) := fun z hz => by rw [← hy]; exact HO_mem HQ.out.2 hz
            have hmy : (y0, y1, y2) ∈ d := by rw [← hy]; exact gt0_mem hdl
            have hpd : ((y0, y1, y2) :: d').Perm d := by rw [← hy]; exact hp'
            have HB3 := Lib.hid (HBL.out.trans hbw)
            have HO3 := Lib.hid hO3
            have HAL := Lib.hid hal
            have HQ3 := Lib.hid hq'
            have HMN := Lib.hid hmn
            have HMY := Lib.hid hmy
            have HPD := Lib.hid hpd
            have HK := Lib.hid hk'
            have hB3 := hq'.1.lt
            have hW3 : W.heap.size ≤ w3.heap.size := by have := hf'.size; omega
            clear hbw hO3 hal hmn hmy hpd hq' hp' hf' hk' hy c0 c1 c2
            go_wp2_with fail
            refine (sorted_any _ h _ (by omega) (by exact ((HO3.out.below HAL.out (Nat.le_refl _)).rd))).mono ?_
            rintro e w5 ⟨v5, s5, rfl, hp5, hs5, ho5, hb5⟩
            have hsl : s5.length = h.length := hp5.length_eq
            have hdhl := HDH.out
            have hs0 : 0 < s5.length := by omega
            have hhead : gt s5 0 = (y0, y1, y2) := by
              have hm5 : (y0, y1, y2) ∈ s5 := hp5.symm.subset (HP.out.subset HMY.out)
              have hg5 : gt s5 0 ∈ d := HP.out.symm.subset (hp5.subset (gt0_mem hs0))
              have hall : ∀ z ∈ s5, ¬ nlt z (gt s5 0) := fun z hz => by
                cases s5 with
                | nil => simp at hs0
                | cons a t =>
                  have e : gt (a :: t) 0 = a := rfl
                  rw [e]
                  rcases List.mem_cons.1 hz with rfl | hz
                  · exact nlt_irr _
                  · exact (List.pairwise_cons.1 hs5).1 z hz
              exact nlt_tri (HMN.out _ hg5) (hall _ hm5)
            obtain ⟨g5, o5, c5, hv5, hn5, hm5, hg5, hgl5, hbk5⟩ := ho5.form hs0
            subst hv5
            obtain ⟨e0, e1, e2⟩ := own_el ho5 0 hs0
            rw [hhead] at e0 e1 e2
            simp only [Nat.zero_mul, Nat.add_zero] at e0 e1 e2
            have t0 := (hb5.cell (p := ⟨w3.heap.size, 0, none⟩) (by simp)).trans (box_cells (heap_alloc_new w3 _)).1
            have t1 := (hb5.cell (p := ⟨w3.heap.size, 1, none⟩) (by simp)).trans (box_cells (heap_alloc_new w3 _)).2.1
            have t2 := (hb5.cell (p := ⟨w3.heap.size, 2, none⟩) (by simp)).trans (box_cells (heap_alloc_new w3 _)).2.2
            obtain ⟨m, hm⟩ : ∃ m, s5.length = m + 1 := ⟨s5.length - 1, by omega⟩
            have HB5 := Lib.hid (below_then HAL.out hb5)
            have HO5 := Lib.hid ho5
            have HP5 := Lib.hid hp5
            have HM5 := Lib.hid hm
            have HHD := Lib.hid hhead
            have HBK5 := Lib.hid hbk5
            obtain ⟨t, ht⟩ : ∃ t, s5 = (y0, y1, y2) :: t := by
              cases s5 with
              | nil => simp at hs0
              | cons a t => exact ⟨t, by have : gt (a :: t) 0 = a := rfl; rw [← hhead, this]⟩
            have HT := Lib.hid ht
            rw [hm]
            have hc5 : m + 1 ≤ c5 := by omega
            have hg5' : w3.heap.size + 1 ≤ g5 := by simpa using hg5
            have hm200 : m ≤ 200 := by omega
            clear hp5 hs5 ho5 hb5 hsl hdhl hs0 hhead hn5 hm5 hg5 hbk5 hm ht
            have hmI : (0 : Int) < (m : Int) + 1 := by omega
            have hm0 : 0 < m + 1 := by omega
            obtain ⟨D, hD⟩ : ∃ D, w3.heap.size = D := ⟨_, rfl⟩
            rw [hD] at t0 t1 t2 ⊢
            have HD := Lib.hid hD
            clear hD
            go_wp2_with fail
            go_quiet (fail)
            have hQ5 : QAt (w5.drewN nq) B B v' d' := ⟨(HQ3.out.1.below HB5.out).below (below_drewN (Below.refl _ _) nq), HQ3.out.2⟩
            have hd'l : d'.length = m := by
              have h1 := HPD.out.length_eq
              have h2 := HDH.out
              have h3 := HP5.out.length_eq
              have h4 := HM5.out
              simp at h1
              omega
            have hO6 : Own (w5.drewN nq) (w3.alloc (.cells #[.int .i64 y0, .int .i64 y1, .int .i64 y2] 27)).heap.size 27 3 (.slice (some ⟨g5, o5, none⟩) (m + 1) c5) (m + 1) (s5.flatMap ndC) := by
              have := HO5.out.drewN nq
              rw [HM5.out] at this
              exact this
            have htl : t.length = m := by have := HM5.out; rw [HT.out] at this; simpa using this
            have hpt : d'.Perm t := by
              have h1 : ((y0, y1, y2) :: d').Perm ((y0, y1, y2) :: t) := by
                rw [← HT.out]
                exact HPD.out.trans (HP.out.trans HP5.out.symm)
              exact (List.perm_cons _).1 h1
            have hB6 : Below W.heap.size W (w5.drewN nq) := below_drewN (HB3.out.trans (HB5.out.mono hW3)) nq
            have fin : ∀ v6, Own (w5.drewN nq) W.heap.size 27 3 v6 t.length (t.flatMap ndC) → (∀ g, blk v6 = some g → g = g5) → RunsR W B n v6 (.int .i64 ((k : Int) + 1)) (w5.drewN nq) := fun v6 h6 hg6 =>
              ⟨k + 1, v', d', t, by go_num, by omega, by have := HDH.out; have := HPD.out.length_eq; simp at this; omega, hQ5, h6, hpt, fun g hg => by
                have := hg6 g hg
                subst this
                refine ⟨by omega, fun e => ?_⟩
                have := (HQ3.out.1.own.blk_lt e).2
                omega, hB6⟩
            have FIN := Lib.hid fin
            have HQ5 := Lib.hid hQ5
            have HDL := Lib.hid hd'l
            have HO6 := Lib.hid hO6
            have HTL := Lib.hid htl
            clear fin hQ5 hd'l hO6 htl hpt hB6
            by_cases hc1 : c5 = 1
            · obtain rfl : m = 0 := by omega
              subst hc1
              go_wp2_with fail
              refine (len_any _ B B v' d' HQ5.out.1 (by rw [HDL.out]; omega)).mono ?_
              rintro e w' ⟨rfl, rfl⟩
              rw [HDL.out]
              go_wp2_with fail
              go_roundw
              case rel =>
                refine FIN.out _ ?_ (fun g hg => by simp [blk] at hg)
                have : t = [] := List.eq_nil_of_length_eq_zero HTL.out
                subst this
                exact ⟨by simp, .inl ⟨_, rfl, rfl⟩⟩
              case measure => simp [intOf]; omega
            · have hc2 : 1 < c5 := by omega
              have hc3 : (c5 == 1) = false := by simpa using hc1
              go_wp2_with fail
              refine (len_any _ B B v' d' HQ5.out.1 (by rw [HDL.out]; omega)).mono ?_
              rintro e w' ⟨rfl, rfl⟩
              rw [HDL.out]
              go_wp2_with fail
              go_roundw
              case rel =>
                refine FIN.out _ ?_ (fun g hg => by
                  obtain ⟨c, hc⟩ : ∃ c, c5 - 1 = c + 1 := ⟨c5 - 2, by omega⟩
                  rw [hc] at hg
                  simp [blk] at hg
                  exact hg.symm)
                have := (HO6.out.cutHead (k := 1) (by omega) hc2).mono (base' := W.heap.size) (by simp; omega)
                rw [HT.out, List.flatMap_cons, Nat.one_mul, List.drop_append_of_le_length (by simp [ndC]), show (ndC (y0, y1, y2)).drop 3 = [] from rfl, List.nil_append] at this
                rw [HTL.out]
                exact this
              case measure => simp [intOf]; omega
      · obtain rfl : k = n := by omega
        go_wp2_with fail
        go_ret
        exact ⟨rfl, HBL.out⟩
  · have hlen' : (200 : Int) < (n : Int) := by omega
    go_wp2_with fail
    go_ret
    exact ⟨rfl, HB2.out⟩

end Go.Proofs.Ytflndnbjdhbppaa
