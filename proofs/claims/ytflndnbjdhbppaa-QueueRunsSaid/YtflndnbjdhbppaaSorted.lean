/- sutureref17: Urgent, least, Sorted. -/
import Derived.Test.YtflndnbjdhbppaaQueueDrains
namespace Go.Proofs.Ytflndnbjdhbppaa
open Go Go.RowKit

theorem refUrgent_any (x y : Nd) (w : World) :
    Calls Try.prog 61 #[.agg #[.int .i64 x.1, .int .i64 x.2.1, .int .i64 x.2.2], .agg #[.int .i64 y.1, .int .i64 y.2.1, .int .i64 y.2.2]] w fun e w' => e = .returned (.bool (urgN x y)) ∧ Below w.heap.size w w' := by
  have hu := urgN_iff x y
  have hf := urgN_false x y
  unfold nlt at hu hf
  obtain ⟨a0, a1, a2⟩ := x
  obtain ⟨b0, b1, b2⟩ := y
  simp only at hu hf ⊢
  generalize urgN (a0, a1, a2) (b0, b1, b2) = r at *
  by_cases h1 : a2 < b2
  · obtain rfl : r = true := hu.2 (by omega)
    clear hu hf
    go_enter Try.func61, Try.ntmps61
    go_wp2
    go_ret
    exact ⟨rfl, below_two _ _ _⟩
  · by_cases h2 : a2 = b2
    · subst h2
      by_cases h3 : a1 < b1
      · obtain rfl : r = true := hu.2 (by omega)
        clear hu hf
        go_enter Try.func61, Try.ntmps61
        go_wp2
        go_ret
        exact ⟨rfl, below_two _ _ _⟩
      · by_cases h4 : a1 = b1
        · subst h4
          by_cases h5 : a0 < b0
          · obtain rfl : r = true := hu.2 (by omega)
            clear hu hf
            go_enter Try.func61, Try.ntmps61
            go_wp2
            go_ret
            exact ⟨rfl, below_two _ _ _⟩
          · obtain rfl : r = false := hf.2 (by omega)
            clear hu hf
            go_enter Try.func61, Try.ntmps61
            go_wp2
            go_ret
            exact ⟨rfl, below_two _ _ _⟩
        · obtain rfl : r = false := hf.2 (by omega)
          have h4' : (a1 == b1) = false := by simpa using h4
          clear hu hf h4
          go_enter Try.func61, Try.ntmps61
          go_wp2
          go_ret
          exact ⟨rfl, below_two _ _ _⟩
    · obtain rfl : r = false := hf.2 (by omega)
      have h2' : (a2 == b2) = false := by simpa using h2
      clear hu hf h2
      go_enter Try.func61, Try.ntmps61
      go_wp2
      go_ret
      exact ⟨rfl, below_two _ _ _⟩

def lenOf : Value → Nat
  | .slice _ n _ => n
  | _ => 0

def LeastE (l : List Nd) (w : World) (e : Ending) (w' : World) : Prop := ∃ k : Nat, k < l.length ∧ (∀ j, j < l.length → ¬ nlt (gt l j) (gt l k)) ∧ e = .returned (.int .i64 k) ∧ Below w.heap.size w w'

set_option maxHeartbeats 1000000 in
theorem least_any (b off cap : Nat) (l : List Nd) (w : World) (h0 : 0 < l.length) (h1000 : l.length ≤ 1000) (hR : Rd w 3 (.slice (some ⟨b, off, none⟩) l.length cap) l.length (l.flatMap ndC)) :
    Calls Try.prog 38 #[.slice (some ⟨b, off, none⟩) l.length cap] w (LeastE l w) := by
  obtain ⟨n, hn⟩ : ∃ n, l.length = n := ⟨_, rfl⟩
  have HR := Lib.hid hR
  have HN := Lib.hid hn
  rw [hn] at h0 h1000 ⊢
  clear hR hn
  go_enter Try.func38, Try.ntmps38
  go_wp2_with fail
  go_loopw [3, 4] (fun s3 s4 wr => ∃ (i : Nat), s4 = .int .i64 i ∧ i ≤ n ∧ (i = 0 ∧ s3 = .int .i64 (-1) ∨ ∃ k : Nat, 0 < i ∧ s3 = .int .i64 k ∧ k < i ∧ ∀ j, j < i → ¬ nlt (gt l j) (gt l k)) ∧ Below w.heap.size w wr) (fun _ s4 _ => n - (intOf s4).toNat)
  case atStart => exact ⟨0, rfl, by omega, .inl ⟨rfl, rfl⟩, Below.refl _ _⟩
  case round =>
    obtain ⟨i, rfl, hi, hs, hbel⟩ := hrel
    have HBL := Lib.hid hbel
    clear hbel
    rcases hs with ⟨rfl, rfl⟩ | ⟨k, hi0, rfl, hki, hmin⟩
    · have h0' : (0 : Int) < (n : Int) := by omega
      go_wp2_with fail
      go_roundw
      case rel => exact ⟨1, rfl, by omega, .inr ⟨0, by omega, rfl, by omega, fun j hj => by
        obtain rfl : j = 0 := by omega
        exact nlt_irr _⟩, HBL.out⟩
      case measure => simp [intOf]; omega
    · have HM := Lib.hid hmin
      clear hmin
      by_cases hlt : i < n
      · have hltI : (i : Int) < (n : Int) := by omega
        have hknI : (k : Int) < (n : Int) := by omega
        have hR1 := HR.out.below HBL.out (Nat.le_refl _)
        obtain ⟨ha0, ha1, ha2⟩ := rd_el hR1 i (by rw [HN.out]; exact hlt)
        obtain ⟨hb0, hb1, hb2⟩ := rd_el hR1 k (by rw [HN.out]; omega)
        obtain ⟨x, hx⟩ : ∃ x, gt l i = x := ⟨_, rfl⟩
        obtain ⟨y, hy⟩ : ∃ y, gt l k = y := ⟨_, rfl⟩
        rw [hx] at ha0 ha1 ha2
        rw [hy] at hb0 hb1 hb2
        have HX := Lib.hid hx
        have HY := Lib.hid hy
        have F3 := fun d os => cell_regrown ha0 d os
        have F4 := fun d os => cell_regrown ha1 d os
        have F5 := fun d os => cell_regrown ha2 d os
        have F6 := fun d os => cell_regrown hb0 d os
        have F7 := fun d os => cell_regrown hb1 d os
        have F8 := fun d os => cell_regrown hb2 d os
        clear hx hy hR1 ha0 ha1 ha2 hb0 hb1 hb2
        go_wp2_with fail
        refine wp_region_quiet_below (by kernel_rfl) (by kernel_rfl) ?_
        repeat (go_big_quiet_step ((go_at_call 61; exact Calls.regrown_of (refUrgent_any x y _))))
        refine wpQuiet_nil ?_
        intro _ hw'
        obtain ⟨⟨dd, os⟩, hw''⟩ := hw'
        subst hw''
        have hbw1 := below_regrown wr dd os
        clear F3 F4 F5 F6 F7 F8
        generalize Go.Sort.grow (redrawn wr dd) os = w1 at *
        have HB1 := Lib.hid (below_then HBL.out hbw1)
        clear hbw1
        have hu := urgN_iff x y
        have hf := urgN_false x y
        have HU := Lib.hid hu
        have HF := Lib.hid hf
        clear hu hf
        obtain ⟨r, hr⟩ : ∃ r, urgN x y = r := ⟨_, rfl⟩
        rw [hr]
        have HR2 := Lib.hid hr
        clear hr
        cases r with
        | true =>
          go_wp2_with fail
          go_roundw
          case rel => exact ⟨i + 1, by go_num, by omega, .inr ⟨i, by omega, rfl, by omega, fun j hj => by
            have hlt := HU.out.1 HR2.out
            rw [HX.out]
            by_cases e : j = i
            · subst e; rw [HX.out]; exact nlt_irr _
            · have := HM.out j (by omega)
              rw [HY.out] at this
              exact fun h => this (by unfold nlt at *; omega)⟩, HB1.out⟩
          case measure => simp [intOf]; omega
        | false =>
          go_wp2_with fail
          go_roundw
          case rel => exact ⟨i + 1, by go_num, by omega, .inr ⟨k, by omega, rfl, by omega, fun j hj => by
            by_cases e : j = i
            · subst e; rw [HX.out, HY.out]; exact HF.out.1 HR2.out
            · exact HM.out j (by omega)⟩, HB1.out⟩
          case measure => simp [intOf]; omega
      · obtain rfl : i = n := by omega
        go_wp2_with fail
        go_ret
        exact ⟨k, by rw [HN.out]; exact hki, fun j hj => HM.out j (by rw [HN.out] at hj; exact hj), rfl, HBL.out⟩

def NSorted (l : List Nd) : Prop := l.Pairwise (fun x y => ¬ nlt y x)
theorem sorted_step {o r r' : List Nd} {x : Nd} (h1 : NSorted o) (h2 : ∀ a ∈ o, ∀ b ∈ r, ¬ nlt b a) (hp : (x :: r').Perm r) (hm : ∀ b ∈ r, ¬ nlt b x) : NSorted (o ++ [x]) ∧ ∀ a ∈ o ++ [x], ∀ b ∈ r', ¬ nlt b a := by
  have hx : x ∈ r := hp.subset (by simp)
  refine ⟨List.pairwise_append.2 ⟨h1, by simp, fun a ha b hb => ?_⟩, fun a ha b hb => ?_⟩
  · rw [List.mem_singleton] at hb
    subst hb
    exact h2 a ha b hx
  · rcases List.mem_append.1 ha with ha | ha
    · exact h2 a ha b (hp.subset (by simp [hb]))
    · rw [List.mem_singleton] at ha
      subst ha
      exact hm b (hp.subset (by simp [hb]))
theorem cut_perm {r : List Nd} {k : Nat} (hk : k < r.length) : (gt r k :: (r.take k ++ r.drop (k + 1))).Perm r := by
  have e : gt r k = r[k] := by simp [gt, hk]
  have e2 : r = r.take k ++ r[k] :: r.drop (k + 1) := by rw [← List.drop_eq_getElem_cons hk, List.take_append_drop]
  rw [e]
  exact (List.perm_middle.symm).trans (by rw [← e2])

def SortedE (l : List Nd) (w : World) (e : Ending) (w' : World) : Prop := ∃ (v : Value) (s : List Nd), e = .returned v ∧ s.Perm l ∧ NSorted s ∧ Own w' w.heap.size 27 3 v s.length (s.flatMap ndC) ∧ Below w.heap.size w w'

theorem ndC_one (l : List Nd) : ∀ u ∈ l.flatMap ndC, u.oneCell' = true := by
  intro u hu
  obtain ⟨x, _, hx⟩ := List.mem_flatMap.1 hu
  simp [ndC] at hx
  rcases hx with rfl | rfl | rfl <;> rfl

set_option maxHeartbeats 4000000 in
theorem sorted_any (v : Value) (l : List Nd) (w : World) (h1000 : l.length ≤ 1000) (hR : Rd w 3 v l.length (l.flatMap ndC)) :
    Calls Try.prog 17 #[v] w (SortedE l w) := by
  obtain ⟨ii, hii, hz0, hz1, hz2⟩ := info_parts infoNeed
  have HR := Lib.hid hR
  clear hR
  obtain ⟨A0, cap0, hv0⟩ : ∃ A c, v = .slice A l.length c := by
    obtain ⟨_, A, c, hv, _⟩ := HR.out
    exact ⟨A, c, hv⟩
  subst hv0
  go_enter Try.func17, Try.ntmps17
  go_wp2_with (at_builtin; refine wpList_append_seg rfl _ _ 22 rfl w.heap.size 27 ii _ 3 24 (by kernel_rfl) hii hz0 hz1 hz2 rfl (by omega) (.slice none 0 0) 0 [] rfl (Own.nil_ _ _ _ _) (.slice A0 l.length cap0) l.length (l.flatMap ndC) rfl HR.out (ndC_one l) (by unfold maxLen; omega) (by omega) (Nat.le_refl _) ?_; intro v1 w1 hown1 hfr1 hb1 _)
  have hown1 : Own w1 w.heap.size 27 3 v1 l.length (l.flatMap ndC) := by simpa using hown1
  have hbel1 : Below w.heap.size w w1 := hfr1.below (Nat.le_refl _) (fun i hi => by simp [blk] at hi)
  have HO1 := Lib.hid hown1
  have HB1 := Lib.hid hbel1
  clear hown1 hfr1 hb1 hbel1
  go_wp2_with fail
  go_loopw [3, 4] (fun s3 s4 wr => ∃ (o r : List Nd), Own wr w.heap.size 27 3 s3 r.length (r.flatMap ndC) ∧ Own wr w.heap.size 27 3 s4 o.length (o.flatMap ndC) ∧ (∀ g, blk s3 = some g → blk s4 ≠ some g) ∧ (o ++ r).Perm l ∧ NSorted o ∧ (∀ a ∈ o, ∀ b ∈ r, ¬ nlt b a) ∧ Below w.heap.size w wr) (fun s3 _ _ => lenOf s3)
  case atStart => exact ⟨[], l, HO1.out, Own.nil_ _ _ _ _, fun g _ => by simp [blk], by simp, List.Pairwise.nil, by simp, HB1.out⟩
  case round =>
    obtain ⟨o, r, hor, hoo, hne, hp, hso, hle, hbel⟩ := hrel
    have hlen : o.length + r.length = l.length := by rw [← hp.length_eq, List.length_append]
    obtain ⟨Ao, capo, hvo⟩ := hoo.slice_
    subst hvo
    obtain ⟨m, hm⟩ : ∃ m, r.length = m := ⟨_, rfl⟩
    by_cases hr0 : 0 < m
    · obtain ⟨g, off, cap, hvr, hnc, hcm, hbg, hgl, hbk⟩ := hor.form (by omega)
      subst hvr
      have HOR := Lib.hid hor
      have HOO := Lib.hid hoo
      have HNE := Lib.hid (hne g hbk)
      have HP := Lib.hid hp
      have HSO := Lib.hid hso
      have HLE := Lib.hid hle
      have HBL := Lib.hid hbel
      have HM := Lib.hid hm
      have HBK := Lib.hid hbk
      have hcap : m ≤ cap := by omega
      have hm1 : m ≤ 1000 := by omega
      have ho1 : o.length ≤ 1000 := by omega
      have hWr : w.heap.size ≤ wr.heap.size := hbel.size
      rw [hm]
      clear hor hoo hne hp hso hle hbel hm hbk hnc hcm hbg hlen
      go_wp2_with fail
      have hRr := HOR.out.rd
      refine (by have := least_any g off cap r wr (by rw [HM.out]; exact hr0) (by rw [HM.out]; exact hm1) hRr; rw [HM.out] at this; exact this : Calls Try.prog 38 #[.slice (some ⟨g, off, none⟩) m cap] wr (LeastE r wr)).mono ?_
      rintro e w1 ⟨i, hi, hmin, rfl, hb1⟩
      rw [HM.out] at hi hmin
      have hO1 := HOR.out.below hb1 (Nat.le_refl _)
      have hOo1 := HOO.out.below hb1 (Nat.le_refl _)
      obtain ⟨c0, c1, c2⟩ := own_el hO1 i (by rw [HM.out]; exact hi)
      obtain ⟨x, hx⟩ : ∃ x, gt r i = x := ⟨_, rfl⟩
      rw [hx] at c0 c1 c2
      obtain ⟨x0, x1, x2⟩ := x
      simp only at c0 c1 c2
      have hiI : (i : Int) < (m : Int) := by omega
      have HX := Lib.hid hx
      have HMIN := Lib.hid hmin
      have HO1 := Lib.hid hO1
      have HOo1 := Lib.hid hOo1
      have hW1 : w.heap.size ≤ w1.heap.size := by have := hb1.size; omega
      have hg1 : g < w1.heap.size := by have := hb1.size; omega
      have HB1 := Lib.hid (below_then HBL.out hb1)
      clear hx hmin hO1 hOo1 hb1 hRr
      have hic : i ≤ cap := by omega
      have hic1 : i + 1 ≤ m := by omega
      have hbm := HBK.out
      rw [HM.out] at hbm
      have HBM := Lib.hid hbm
      have hO1m := HO1.out
      rw [HM.out] at hO1m
      have HO1m := Lib.hid hO1m
      clear hbm hO1m
      go_wp2_with (first
        | (at_builtin; refine wpList_append_seg rfl (.tmp 14) (.tmp 19) 22 rfl w.heap.size 27 ii _ 3 24 (by kernel_rfl) hii hz0 hz1 hz2 rfl (by omega) (.slice Ao o.length capo) o.length (o.flatMap ndC) rfl (HOo1.out.alloc _) (.slice (some ⟨w1.heap.size, 0, none⟩) 1 1) 1 (ndC (x0, x1, x2)) rfl (rd_one (t := 27) (heap_alloc_new _ _) rfl) (by simp [ndC, Value.oneCell']) (by unfold maxLen; omega) (by omega) (by simp; try omega) ?_; intro v3 w3 hown3 hfr3 hb3 _; have HN3 := Lib.hid (And.intro hown3 (And.intro hfr3 hb3)); have HO3 := Lib.hid ((HO1m.out.alloc _).fr hfr3 (fun k hk e => HNE.out (by rw [HBM.out] at hk; rw [e, hk]))); have hW3 := hfr3.size; clear hown3 hfr3 hb3)
        | (at_builtin; refine wpList_append_seg rfl (.const (.slice none 0 0)) (.tmp 23) 22 rfl w.heap.size 27 ii _ 3 24 (by kernel_rfl) hii hz0 hz1 hz2 rfl (by omega) (.slice none 0 0) 0 [] rfl (Own.nil_ _ _ _ _) (.slice (some ⟨g, off, none⟩) i cap) i ((r.flatMap ndC).take (i * 3)) rfl (HO3.out.rd.cutEnd (by omega)) (fun u hu => ndC_one r u (List.mem_of_mem_take hu)) (by unfold maxLen; omega) (by omega) (by simp at hW3; omega) ?_; intro v4 w4 hown4 hfr4 hb4 _; have HN4 := Lib.hid (And.intro hown4 (And.intro hfr4 hb4)); have HO4 := Lib.hid (HO3.out.fr hfr4 (fun k hk e => by simp [blk] at e)); have hW4 := hfr4.size; clear hown4 hfr4 hb4)
        | (at_builtin; go_loud (refine wpList_append_seg rfl (.tmp 25) (.tmp 29) 22 rfl w.heap.size 27 ii _ 3 24 (by kernel_rfl) hii hz0 hz1 hz2 rfl (by omega) v4 (0 + i) ([] ++ (r.flatMap ndC).take (i * 3)) rfl HN4.out.1 (.slice _ (m - (i + 1)) (cap - (i + 1))) (m - (i + 1)) ((r.flatMap ndC).drop ((i + 1) * 3)) rfl (HO4.out.rd.cutHead (by omega) _ (fun h => by first | rfl | (rw [if_neg (by omega)]))) (fun u hu => ndC_one r u (List.mem_of_mem_drop hu)) (by unfold maxLen; omega) (by omega) (by simp at hW3; omega) ?_); intro v5 w5 hown5 hfr5 hb5 _; have HN5 := Lib.hid (And.intro hown5 (And.intro hfr5 hb5)); clear hown5 hfr5 hb5))
      go_roundw
      case rel =>
        obtain ⟨o3, f3, k3⟩ := HN3.out
        obtain ⟨o4, f4, k4⟩ := HN4.out
        obtain ⟨o5, f5, k5⟩ := HN5.out
        have hbd3 : ∀ k, blk v3 = some k → w.heap.size ≤ k ∧ k < w3.heap.size := fun k hk => o3.blk_lt hk
        have hk4 : ∀ k, blk v4 = some k → w3.heap.size ≤ k := fun k hk => by
          rcases k4 with h | h
          · rw [h] at hk; simp [blk] at hk
          · rw [h] at hk; injection hk with hk; omega
        have hs4 := f4.size
        have o34 := o3.fr f4 (fun k hk e => by simp [blk] at e)
        have o35 := o34.fr f5 (fun k hk e => by have := (hbd3 k hk).2; have := hk4 k e; omega)
        have hcut := cut_perm (r := r) (k := i) (by rw [HM.out]; exact hi)
        rw [HX.out] at hcut
        have hmn : ∀ b ∈ r, ¬ nlt b (x0, x1, x2) := fun b hb => by
          obtain ⟨j, hj, rfl⟩ := List.mem_iff_getElem.1 hb
          have := HMIN.out j (by rw [← HM.out]; exact hj)
          rw [HX.out] at this
          have e : gt r j = r[j] := by simp [gt, hj]
          rw [e] at this
          exact this
        obtain ⟨s1, s2⟩ := sorted_step HSO.out HLE.out hcut hmn
        refine ⟨o ++ [(x0, x1, x2)], r.take i ++ r.drop (i + 1), ?_, ?_, ?_, ?_, s1, s2, ?_⟩
        · have e1 : (r.take i ++ r.drop (i + 1)).length = 0 + i + (m - (i + 1)) := by rw [List.length_append, List.length_take, List.length_drop, HM.out]; omega
          rw [e1, List.flatMap_append, ← flat_take ndC 3 ndC_len, ← flat_drop ndC 3 ndC_len]
          exact o5
        · rw [List.length_append, List.flatMap_append, flat_one]
          exact o35
        · intro k hk e
          have h3 := (hbd3 k e).2
          rcases k5 with h | h
          · have := hk4 k (h.symm.trans hk); omega
          · rw [h] at hk; injection hk with hk; omega
        · rw [List.append_assoc]
          exact (List.Perm.append_left o hcut).trans HP.out
        · have b3 : Below w.heap.size (w1.alloc (.cells #[.int .i64 x0, .int .i64 x1, .int .i64 x2] 27)) w3 := f3.below (by simp; omega) (fun k hk => (HOo1.out.blk_lt hk).1)
          have b4 : Below w.heap.size w3 w4 := f4.below (by simp at hW3; omega) (fun k hk => by simp [blk] at hk)
          have b5 : Below w.heap.size w4 w5 := f5.below (by simp at hW3; omega) (fun k hk => by have := hk4 k hk; simp at hW3; omega)
          exact (((HB1.out.alloc hW1 _).trans b3).trans b4).trans b5
      case measure =>
        obtain ⟨A5, c5, h5⟩ := HN5.out.1.slice_
        rw [h5]
        show 0 + i + (m - (i + 1)) < m
        omega
    · obtain rfl : m = 0 := by omega
      obtain rfl : r = [] := List.eq_nil_of_length_eq_zero hm
      obtain ⟨Ar, capr, hvr⟩ := hor.slice_
      subst hvr
      have HOO := Lib.hid hoo
      have HBL := Lib.hid hbel
      have HP := Lib.hid hp
      have HSO := Lib.hid hso
      clear hor hoo hne hp hso hle hbel hm
      rw [List.length_nil]
      go_wp2_with fail
      go_ret
      exact ⟨_, o, rfl, by simpa using HP.out, HSO.out, HOO.out, HBL.out⟩

end Go.Proofs.Ytflndnbjdhbppaa
